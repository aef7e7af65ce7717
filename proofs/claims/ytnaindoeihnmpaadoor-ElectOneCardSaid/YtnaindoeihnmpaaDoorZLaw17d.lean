/-
  WHAT IS PROVED HERE: the law ElectOne returns true: of two that ask nodes of the same voters in one term no two have a majority. Conditions: the slices are of at most 2^47 elements; the library's table and MaxLen stand.
-/
import Derived.Test.YtnaindoeihnmpaaDoorZOneQ
import Derived.Test.YtnaindoeihnmpaaDoorZCnt
import Derived.Test.YtnaindoeihnmpaaDoorZStd
import Derived.Test.YtnaindoeihnmpaaDoorZReg3
namespace Go.Proofs.YtnaindoeihnmpaaDoor
open Go.RowKit Go.Maps

set_option maxRecDepth 100000 in
set_option maxHeartbeats 12800000 in
theorem LawOne_any (VA : Option Addr) (n c : Nat) (V : List Int) (T : Int) (OA : Option Addr) (on oc : Nat) (os : List Int) (w : World) (hV0 : Ints w w.heap.size VA n V) (hnc : n ≤ c) (hcb : c * 8 ≤ 140737488351232) (hO0 : Ints w w.heap.size OA on os) (honc : on ≤ oc) (hocb : oc * 8 ≤ 140737488351232) (hos : ∀ z ∈ os, -9223372036854775808 ≤ z ∧ z ≤ 9223372036854775807) (ht : Tab w) (mm : Int) (hm : w.cell? ⟨1, 0, none⟩ = some (.int .i64 mm)) :
    Calls Tryd.prog 6 #[.slice VA n c, .int .i64 T, .slice OA on oc] w fun e w' => e = .returned (.bool true) ∧ Below w.heap.size w w' := by
  have hm2 : Hid (∀ w', Below w.heap.size w w' → w'.cell? ⟨1, 0, none⟩ = some (.int .i64 mm)) := fun w' hb => (hb.cell (p := ⟨1, 0, none⟩) (cell_lt hm)).trans hm
  clear hm
  obtain ⟨z, hz⟩ : ∃ z, rightL V = z := ⟨_, rfl⟩
  replace hz := hid_mk hz
  have hVl := hid_mk hV0.len
  replace hos := hid_mk hos
  have hmk := @run_makeMap Tryd.prog
  refine calls_of_wpQ Tryd.func6 rfl ?_
  intro Q hQ
  simp only [Tryd.ntmps6, List.size_toArray, List.length_cons, List.length_nil, Nat.reduceAdd, Nat.reduceSub, Array.replicate_succ, Array.replicate_zero, List.push_toArray, List.append_toArray, List.nil_append, List.cons_append]
  go_wp2_with fail
  refine (alive_any _ (ht.to (by go_grown))).mono ?_
  rintro e w1 ⟨rfl, hb1⟩
  have q1 := (after (w := w) hb1 (by go_grown)).1
  have z1 := q1.size
  clear hb1
  go_wp2_with fail
  refine (qRight_any VA n c V _ w.heap.size (by omega) (hV0.to (by go_grown))).mono ?_
  rw [hz.out]
  rintro e w2 ⟨rfl, rfl⟩
  cases z
  case false =>
    go_wp2_with fail
    refine (alive_any _ (ht.to (by go_grown))).mono ?_
    rintro e w2 ⟨rfl, hb1⟩
    have q2 := (after (w := w) hb1 (by go_grown)).1
    have z2 := q2.size
    clear hb1
    go_wp2
    refine ends_ret hQ (results_tmp rfl _ _ _) rfl ?_
    exact ⟨rfl, q2⟩
  by_cases c1 : n < 2
  case pos =>
    go_wp2_with fail
    refine (alive_any _ (ht.to (by go_grown))).mono ?_
    rintro e w2 ⟨rfl, hb1⟩
    have q2 := (after (w := w) hb1 (by go_grown)).1
    have z2 := q2.size
    clear hb1
    go_wp2
    refine ends_ret hQ (results_tmp rfl _ _ _) rfl ?_
    exact ⟨rfl, q2⟩
  by_cases c2 : T < 1
  case pos =>
    go_wp2_with fail
    refine (alive_any _ (ht.to (by go_grown))).mono ?_
    rintro e w2 ⟨rfl, hb1⟩
    have q2 := (after (w := w) hb1 (by go_grown)).1
    have z2 := q2.size
    clear hb1
    go_wp2
    refine ends_ret hQ (results_tmp rfl _ _ _) rfl ?_
    exact ⟨rfl, q2⟩
  by_cases c3 : T > 1073741824
  case pos =>
    go_wp2_with fail
    refine (alive_any _ (ht.to (by go_grown))).mono ?_
    rintro e w2 ⟨rfl, hb1⟩
    have q2 := (after (w := w) hb1 (by go_grown)).1
    have z2 := q2.size
    clear hb1
    go_wp2
    refine ends_ret hQ (results_tmp rfl _ _ _) rfl ?_
    exact ⟨rfl, q2⟩
  have hT : 1 ≤ T ∧ T ≤ 1073741824 := by omega
  have hTw : IntKind.i64.wrap (T - 1) = T - 1 := IntWalk.i64_in _ (by omega)
  have hdg := hid_mk (right_digits hz.out)
  have hn7 : n ≤ 7 := by rw [← hVl.out]; exact (right_len hz.out).2
  obtain ⟨gm, hgm⟩ : ∃ g, w1.heap.size = g := ⟨_, rfl⟩
  have hgw : w.heap.size ≤ gm := by rw [← hgm]; exact q1.size
  have hM0 : Hid (MapI Tryd.prog (w1.alloc (.map #[] 0)) 3 gm 0 (fun _ => none)) := by rw [← hgm]; exact MapI.made w1 Tryd.prog 3
  have q3 : Below w.heap.size w (w1.alloc (.map #[] 0)) := q1.alloc q1.size _
  replace hgm := hid_mk hgm
  clear q1
  go_wp2
  rw [hgm.out]
  go_loopw [50] (fun i wr => ∃ (k : Nat) (F : Int → Option Value), i = .int .i64 k ∧ k ≤ n ∧ Below w.heap.size w wr ∧ Hid (MapI Tryd.prog wr 3 gm k F) ∧ Hid (Laid V (T - 1) ⟨⟨none, 0, 0⟩, ⟨VA, n, c⟩, ⟨none, 0, 0⟩, ⟨none, 0, 0⟩⟩ k F)) (fun i _ => n - (intOf i).toNat)
  case atStart => exact ⟨0, _, rfl, Nat.zero_le _, q3, hM0, fun v hv => by cases hv⟩
  case round =>
    clear hM0 q3
    obtain ⟨k, F, rfl, hk, hb, hMap, hF⟩ := hrel
    have zr := hb.size
    by_cases hlt : k < n
    · obtain ⟨bv, ov, x, rfl, hbv, hd, hc⟩ := (hV0.to hb).at_ hlt
      have hx := hdg.out x (List.mem_of_mem_drop (by rw [hd.out]; exact .head _))
      have hwf : (Lit.int .i64 x).wf = true := WalkArith.wf_i64 (by omega)
      have hstep : Hid (Laid V (T - 1) ⟨⟨none, 0, 0⟩, ⟨some ⟨bv, ov, none⟩, n, c⟩, ⟨none, 0, 0⟩, ⟨none, 0, 0⟩⟩ (k + 1) (updI F x (.agg #[.int .i64 x, .int .i64 (T - 1), .int .i64 0, .int .i64 0, .int .i64 0, .slice none 0 0, .string ⟨#[]⟩, .slice (some ⟨bv, ov, none⟩) n c, .int .i64 0, .int .i64 0, .int .i64 0, .int .i64 0, .slice none 0 0, .slice none 0 0]))) := lay_step hd.out hF.out
      go_wp2_with (at_mapUpdate; refine mapI_update rfl _ _ _ 51 rfl 3 30 Tryd.underlying3 Tryd.underlying51 gm _ F rfl hMap.out (by unfold maxLen; omega) _ rfl hwf (.agg #[.int .i64 x, .int .i64 (T - 1), .int .i64 0, .int .i64 0, .int .i64 0, .slice none 0 0, .string ⟨#[]⟩, .slice (some ⟨bv, ov, none⟩) n c, .int .i64 0, .int .i64 0, .int .i64 0, .int .i64 0, .slice none 0 0, .slice none 0 0]) rfl ?_; intro w6 hM6 hg6; have q6 : Below w.heap.size w w6 := grown_below (by go_grown) hg6 (fun k hk => by cases hk; exact hgw); replace hM6 := hid_mk hM6; clear hg6)
      go_roundw
      case rel => exact ⟨k + 1, _, by go_num, by omega, q6, hM6, hstep⟩
      case measure => simp [intOf]; omega
    have hF2 : Hid (∀ v ∈ V, F v = some (nodeV (bareN V (T - 1) v) ⟨⟨none, 0, 0⟩, ⟨VA, n, c⟩, ⟨none, 0, 0⟩, ⟨none, 0, 0⟩⟩)) := by
      intro v hv
      exact hF.out v (by rw [List.take_of_length_le (by rw [hVl.out]; omega)]; exact hv)
    obtain ⟨bv, ov, one, hVA, hbv, hd1, hc1⟩ := (hV0.to hb).at_ (show 0 < n by omega)
    obtain ⟨bv2, ov2, two, hVA2, _, hd2, hc2⟩ := (hV0.to hb).at_ (show 1 < n by omega)
    rw [hVA] at hVA2
    obtain ⟨rfl, rfl⟩ : bv = bv2 ∧ ov = ov2 := by injection hVA2 with e; injection e with e1 e2; exact ⟨e1, e2⟩
    have h12 : Hid (one ∈ V ∧ two ∈ V ∧ one ≠ two) := by
      have d1 := hd1.out
      have d2 := hd2.out
      have e : V = one :: two :: V.drop 2 := d1.trans (congrArg (one :: ·) d2)
      have ho := right_ones hz.out
      rw [e] at ho ⊢
      refine ⟨.head _, .tail _ (.head _), fun h => ho.1 ?_⟩
      rw [h]
      exact .head _
    clear hVA2 hd1 hd2 hF
    subst hVA
    rw [Nat.add_zero] at hc1
    have b0 : 0 < n := by omega
    have b1 : (1 : Int) < n := by omega
    have hS9 := hid_mk (And.intro hc1 hc2)
    clear hc1 hc2
    go_wp2
    refine wp_region_T' (fun w' => w'.cell? ⟨bv, ov, none⟩ = some (.int .i64 one) ∧ w'.cell? ⟨bv, ov + 1, none⟩ = some (.int .i64 two)) (fun j => decide (j < 9)) 8 (by kernel_rfl) (by kernel_rfl) (by exact hS9.out) (fun hS0 => ?_)
    refine wpAnyT_take (i := 0) rfl (by kernel_rfl) (by kernel_rfl) (by kernel_rfl) rfl (by kernel_rfl) (fun _ _ _ h => h) (by kernel_rfl) (fun w' hS => (by obtain ⟨s0, s1⟩ := hS; go_simp; try with_reducible rfl)) hS0 ?_
    simp only [Act.put]
    refine wpAnyT_take (i := 1) rfl (by kernel_rfl) (by kernel_rfl) (by kernel_rfl) rfl (by kernel_rfl) (fun _ _ _ h => h) (by kernel_rfl) (fun w' hS => (by obtain ⟨s0, s1⟩ := hS; go_simp; try with_reducible rfl)) hS0 ?_
    simp only [Act.put]
    refine wpAnyT_take (i := 2) rfl (by kernel_rfl) (by kernel_rfl) (by kernel_rfl) rfl (by kernel_rfl) (fun _ _ _ h => h) (by kernel_rfl) (fun w' hS => (by obtain ⟨s0, s1⟩ := hS; go_simp; try with_reducible rfl)) hS0 ?_
    simp only [Act.put]
    refine wpAnyT_take (i := 3) rfl (by kernel_rfl) (by kernel_rfl) (by kernel_rfl) rfl (by kernel_rfl) (fun _ _ _ h => h) (by kernel_rfl) (fun w' hS => (by obtain ⟨s0, s1⟩ := hS; go_simp; try with_reducible rfl)) hS0 ?_
    simp only [Act.put]
    refine wpAnyT_take (i := 4) rfl (by kernel_rfl) (by kernel_rfl) (by kernel_rfl) rfl (by kernel_rfl) (fun _ _ _ h => h) (by kernel_rfl) (fun w' hS => (by obtain ⟨s0, s1⟩ := hS; go_simp; try with_reducible rfl)) hS0 ?_
    simp only [Act.put]
    refine wpAnyT_take (i := 5) rfl (by kernel_rfl) (by kernel_rfl) (by kernel_rfl) rfl (by kernel_rfl) (fun _ _ _ h => h) (by kernel_rfl) (fun w' hS => (by obtain ⟨s0, s1⟩ := hS; go_simp; try with_reducible rfl)) hS0 ?_
    simp only [Act.put]
    refine wpAnyT_one (i := 6) (by kernel_rfl) rfl (fun K hK => ?_)
    go_simp
    refine hK.out _ _ (fun _ => hS9.out) ?_
    clear hK K
    try simp only [Act.put]
    refine wpAnyT_one (i := 7) (by kernel_rfl) rfl (fun K hK => ?_)
    go_simp
    refine hK.out _ _ (fun _ => hS9.out) ?_
    clear hK K
    try simp only [Act.put]
    refine wpAnyT_done (by kernel_rfl) ?_ _
    go_wp2
    have hlm := hMap.out.lt
    have qW : Below w.heap.size w ((wr.alloc (.map #[] 0)).alloc (.cells #[.int .i64 one, .int .i64 two] 3)).drew := by go_grown
    have hmF0 : MapI Tryd.prog ((wr.alloc (.map #[] 0)).alloc (.cells #[.int .i64 one, .int .i64 two] 3)).drew 3 gm 7 F := (((hMap.out.alloc _).alloc _).drew).mono (by omega)
    have hmG0 : MapI Tryd.prog ((wr.alloc (.map #[] 0)).alloc (.cells #[.int .i64 one, .int .i64 two] 3)).drew 3 wr.heap.size 7 (fun _ => none) := (((MapI.made wr Tryd.prog 3).alloc _).drew).mono (by omega)
    have hgl0 : Blk ((wr.alloc (.map #[] 0)).alloc (.cells #[.int .i64 one, .int .i64 two] 3)).drew (wr.heap.size + 1) 3 #[.int .i64 one, .int .i64 two] := (Blk.new_ (by simp)).drew
    have hP0 : Hid (Play w V T one two gm wr.heap.size ((wr.alloc (.map #[] 0)).alloc (.cells #[.int .i64 one, .int .i64 two] 3)).drew (.slice none 0 0) 7 0 (bareN V (T - 1)) (fun _ => false) [] F (fun _ => none)) := by
      refine ⟨World.ownsRow_nil _ _ _ _, hmF0, hmG0, fun v hv => ⟨_, hF2.out v hv, ?_⟩, fun c hc => rfl, fun m hm => by cases hm⟩
      exact (bare_ok hV0 hnc hcb (T - 1) v).to qW
    clear hmF0 hmG0 hMap hF2 hS9
    obtain ⟨gw, hgw2⟩ : ∃ g, wr.heap.size = g := ⟨_, rfl⟩
    obtain ⟨gl, hgl⟩ : ∃ g, g = gw + 1 := ⟨_, rfl⟩
    obtain ⟨wW, hwW⟩ : ∃ x, ((wr.alloc (.map #[] 0)).alloc (.cells #[.int .i64 one, .int .i64 two] 3)).drew = x := ⟨_, rfl⟩
    rw [hwW] at qW hgl0 hP0 ⊢
    rw [hgw2] at hP0 hgl0 hlm zr ⊢
    rw [← hgl] at hgl0 ⊢
    have hglw : gw < gl := by rw [hgl]; exact Nat.lt_succ_self _
    replace hgl := hid_mk hgl
    replace hgw2 := hid_mk hgw2
    replace hwW := hid_mk hwW
    replace hgl0 := hid_mk hgl0
    have hBeg0 := hid_mk (beg_start V T one two (fun _ => false))
    obtain ⟨i0, hi0, hz0, hz1, hz2⟩ := info_parts msgInfo
    have hgne : some gm ≠ some gw := by intro e; cases e; omega
    have hgne2 : some gw ≠ some gm := by intro e; cases e; omega
    go_loopw [13, 74] (fun s i wy => ∃ (k n9 b : Nat) (f : Int → Nd) (won : Int → Bool) (ms : List Ms) (F G : Int → Option Value), i = .int .i64 k ∧ k ≤ 2 ∧ Below w.heap.size w wy ∧ Hid (Play w V T one two gm gw wy s b n9 f won ms F G) ∧ b ≤ 7 + k ∧ Hid (Blk wy gl 3 #[.int .i64 one, .int .i64 two]) ∧ Hid (Beg V T one two k f won) ∧ n9 ≤ 7 * k) (fun _ i _ => 2 - (intOf i).toNat)
    case atStart => exact ⟨0, 0, 7, _, _, _, _, _, rfl, by omega, qW, hP0, by omega, hgl0, hBeg0, by omega⟩
    case round =>
      clear qW hP0 hgl0 hBeg0
      obtain ⟨k2, n9, b, f, won, ms, F2, G2, rfl, hk2, hb2, hPlay, hbb, hgl0, hBeg, hn9⟩ := hrel
      have zr2 := hb2.size
      by_cases hlt2 : k2 < 2
      · as_aux_lemma =>
          obtain ⟨bl, ol, x, hbl, _, hd, hcx⟩ := (ints_two hgl0.out).at_ hlt2
          injection hbl with hbl
          injection hbl with e1 e2
          subst e1
          subst e2
          rw [Nat.zero_add] at hcx
          have gll := hgl0.out.lt
          obtain ⟨hx12, hfx, hbeg'⟩ := beg_at hBeg.out h12.out.2.2 hlt2 hd.out
          have hxV : x ∈ V := by
            rcases hx12 with e | e
            · rw [e]; exact h12.out.1
            · rw [e]; exact h12.out.2.1
          have hxb := hdg.out x hxV
          have hwf : (Lit.int .i64 x).wf = true := WalkArith.wf_i64 (by omega)
          obtain ⟨hown, hmF, hmG, hnd, hwn, hask⟩ := hPlay.out
          obtain ⟨ax, hFx, hOkx⟩ := hnd x hxV
          rw [hfx] at hFx hOkx
          obtain ⟨s1, s2, s3, s4, s5⟩ := stand_bare hz.out hT hxV
          rw [up_bare] at s2 hbeg'
          obtain ⟨sw, hsw⟩ : ∃ q, standW (bareN V (T - 1) x) = q := ⟨_, rfl⟩
          obtain ⟨L, hL⟩ : ∃ q, asks x T 0 0 V = q := ⟨_, rfl⟩
          rw [hL] at s3
          have hbeg2 := hid_mk (hbeg' sw hsw.symm)
          have hLa : Hid (∀ m ∈ L, AskB V T one two m) := by rw [← hL]; exact asks_b hz.out hT hxV hx12
          have hLn : Hid (∀ M ∈ L, M.rs = [] ∧ M.vs = [] ∧ M.s.size = 0) := by rw [← hL]; exact asks_nil
          have hL7 : Hid (L.length ≤ 7) := by rw [← hL]; exact Nat.le_trans (asks_len _ _ _ _ _) (right_len hz.out).2
          replace hL := hid_mk hL
          replace hsw := hid_mk hsw
          replace s2 := hid_mk s2
          replace s3 := hid_mk s3
          replace hFx := hid_mk hFx
          replace hown := hid_mk hown
          replace hmF := hid_mk hmF
          replace hmG := hid_mk hmG
          replace hnd := hid_mk hnd
          replace hwn := hid_mk hwn
          replace hask := hid_mk hask
          have hxV' := hid_mk hxV
          clear s1 s4 s5 hd hfx hbeg' hxV hPlay hBeg hx12
          go_wp2_with (at_lookup; refine mapI_lookup rfl _ _ 51 rfl 3 30 Tryd.underlying3 Tryd.underlying51 (zeroNd _) gm _ F2 rfl hmF.out _ rfl hwf (.agg #[.int .i64 x, .int .i64 (T - 1), .int .i64 0, .int .i64 0, .int .i64 0, .slice ax.R.A ax.R.n ax.R.c, .string ⟨#[]⟩, .slice ax.V.A ax.V.n ax.V.c, .int .i64 0, .int .i64 0, .int .i64 0, .int .i64 0, .slice ax.G.A ax.G.n ax.G.c, .slice ax.P.A ax.P.n ax.P.c]) (by rw [hFx.out]; rfl) ?_)
          refine (Stand_any (bareN V (T - 1) x) ax 10 _ (B := w.heap.size) (hOkx.to (by go_grown)) (ht.to (by go_grown)) mm (hm2.out _ (by go_grown))).mono ?_
          rw [s2.out, s3.out, hsw.out]
          rintro e w4 ⟨⟨a2, A1, n1, c1, rfl, hok2, hL1, hc1⟩, hb1⟩
          have hkr := hid_mk (KR.below (B := w.heap.size) hb1)
          have q4 := (after (w := w) hb1 (by go_grown)).1
          have z4 := q4.size
          have hown4 := hid_mk (own_keep hown.out hb1)
          have hmF4 := hid_mk (hmF.out.to hb1)
          have hmG4 := hid_mk (hmG.out.to hb1)
          have hgl4 := hid_mk (hgl0.out.keep hb1)
          replace hok2 := hid_mk hok2
          replace hL1 := hid_mk hL1
          have hl1 := hL1.out.len
          rw [List.length_map] at hl1
          have hn1 : n1 ≤ 7 := by rw [← hl1]; exact hL7.out
          replace hl1 := hid_mk hl1
          clear hb1 hcx gll
          unfold nodeV
          dsimp only
          have hX : Hid (Blk (w4.alloc (.cells #[.int .i64 x, .int .i64 T, .int .i64 x, .int .i64 0, .int .i64 0, .slice a2.R.A a2.R.n a2.R.c, .string ⟨#[]⟩, .slice a2.V.A a2.V.n a2.V.c, .int .i64 1, .int .i64 0, .int .i64 10, .int .i64 0, .slice a2.G.A a2.G.n a2.G.c, .slice a2.P.A a2.P.n a2.P.c] 30)) w4.heap.size 30 #[.int .i64 x, .int .i64 T, .int .i64 x, .int .i64 0, .int .i64 0, .slice a2.R.A a2.R.n a2.R.c, .string ⟨#[]⟩, .slice a2.V.A a2.V.n a2.V.c, .int .i64 1, .int .i64 0, .int .i64 10, .int .i64 0, .slice a2.G.A a2.G.n a2.G.c, .slice a2.P.A a2.P.n a2.P.c]) := Blk.new _ _ _
          have hown5 := hid_mk (hown4.out.alloc (.cells #[.int .i64 x, .int .i64 T, .int .i64 x, .int .i64 0, .int .i64 0, .slice a2.R.A a2.R.n a2.R.c, .string ⟨#[]⟩, .slice a2.V.A a2.V.n a2.V.c, .int .i64 1, .int .i64 0, .int .i64 10, .int .i64 0, .slice a2.G.A a2.G.n a2.G.c, .slice a2.P.A a2.P.n a2.P.c] 30))
          have hmF5 := hid_mk (hmF4.out.alloc (.cells #[.int .i64 x, .int .i64 T, .int .i64 x, .int .i64 0, .int .i64 0, .slice a2.R.A a2.R.n a2.R.c, .string ⟨#[]⟩, .slice a2.V.A a2.V.n a2.V.c, .int .i64 1, .int .i64 0, .int .i64 10, .int .i64 0, .slice a2.G.A a2.G.n a2.G.c, .slice a2.P.A a2.P.n a2.P.c] 30))
          have hmG5 := hid_mk (hmG4.out.alloc (.cells #[.int .i64 x, .int .i64 T, .int .i64 x, .int .i64 0, .int .i64 0, .slice a2.R.A a2.R.n a2.R.c, .string ⟨#[]⟩, .slice a2.V.A a2.V.n a2.V.c, .int .i64 1, .int .i64 0, .int .i64 10, .int .i64 0, .slice a2.G.A a2.G.n a2.G.c, .slice a2.P.A a2.P.n a2.P.c] 30))
          have hgl5 := hid_mk (hgl4.out.alloc (.cells #[.int .i64 x, .int .i64 T, .int .i64 x, .int .i64 0, .int .i64 0, .slice a2.R.A a2.R.n a2.R.c, .string ⟨#[]⟩, .slice a2.V.A a2.V.n a2.V.c, .int .i64 1, .int .i64 0, .int .i64 10, .int .i64 0, .slice a2.G.A a2.G.n a2.G.c, .slice a2.P.A a2.P.n a2.P.c] 30))
          have hL5 : Hid (Mgs (w4.alloc (.cells #[.int .i64 x, .int .i64 T, .int .i64 x, .int .i64 0, .int .i64 0, .slice a2.R.A a2.R.n a2.R.c, .string ⟨#[]⟩, .slice a2.V.A a2.V.n a2.V.c, .int .i64 1, .int .i64 0, .int .i64 10, .int .i64 0, .slice a2.G.A a2.G.n a2.G.c, .slice a2.P.A a2.P.n a2.P.c] 30)) 0 A1 n1 (L.map fun M => (M, nilMA))) := hL1.out.to ((Below.refl _ w4).alloc (Nat.le_refl _) _)
          have hkr5 : Hid (KR wr (w4.alloc (.cells #[.int .i64 x, .int .i64 T, .int .i64 x, .int .i64 0, .int .i64 0, .slice a2.R.A a2.R.n a2.R.c, .string ⟨#[]⟩, .slice a2.V.A a2.V.n a2.V.c, .int .i64 1, .int .i64 0, .int .i64 10, .int .i64 0, .slice a2.G.A a2.G.n a2.G.c, .slice a2.P.A a2.P.n a2.P.c] 30)) w.heap.size) := hkr.out.trans (.alloc _ _)
          have hok5 : Hid (NdOk (w4.alloc (.cells #[.int .i64 x, .int .i64 T, .int .i64 x, .int .i64 0, .int .i64 0, .slice a2.R.A a2.R.n a2.R.c, .string ⟨#[]⟩, .slice a2.V.A a2.V.n a2.V.c, .int .i64 1, .int .i64 0, .int .i64 10, .int .i64 0, .slice a2.G.A a2.G.n a2.G.c, .slice a2.P.A a2.P.n a2.P.c] 30)) w.heap.size ⟨x, ⟨T, x, ⟨0, 0, []⟩, ⟨#[]⟩, V⟩, 1, 0, 10, 0, [x], []⟩ a2) := hok2.out.to ((Below.refl _ w4).alloc (Nat.le_refl _) _)
          have q5 : Below w.heap.size w (w4.alloc (.cells #[.int .i64 x, .int .i64 T, .int .i64 x, .int .i64 0, .int .i64 0, .slice a2.R.A a2.R.n a2.R.c, .string ⟨#[]⟩, .slice a2.V.A a2.V.n a2.V.c, .int .i64 1, .int .i64 0, .int .i64 10, .int .i64 0, .slice a2.G.A a2.G.n a2.G.c, .slice a2.P.A a2.P.n a2.P.c] 30)) := by go_grown
          clear hown4 hmF4 hmG4 hgl4 hL1 hkr hok2 hown hmF hmG hgl0
          obtain ⟨xl, x0, x1, x2, x3, x4, x5, x6, x7, x8, x9, x10, x11, x12, x13⟩ := blk14c hX.out
          have hms : Hid (n9 ≤ 14) := by rw [Hid]; omega
          go_wp2_with (first | (at_mapUpdate; refine mapI_update rfl _ _ _ 51 rfl 3 30 Tryd.underlying3 Tryd.underlying51 gm _ F2 rfl hmF5.out (by unfold maxLen; omega) _ rfl hwf (.agg #[.int .i64 x, .int .i64 T, .int .i64 x, .int .i64 0, .int .i64 0, .slice a2.R.A a2.R.n a2.R.c, .string ⟨#[]⟩, .slice a2.V.A a2.V.n a2.V.c, .int .i64 1, .int .i64 0, .int .i64 10, .int .i64 0, .slice a2.G.A a2.G.n a2.G.c, .slice a2.P.A a2.P.n a2.P.c]) rfl ?_; intro w6 hM6 hg6; have q6 : Below w.heap.size w w6 := grown_below q5 hg6 (fun k hk => by cases hk; exact hgw); have hX6 := hid_mk (grown_neK hmF5.out hg6 hX.out); have hown6 := hid_mk (own_map hmF5.out hg6 hown5.out); have hmG6 := hid_mk (hmG5.out.grown hg6 hgne2); have hgl6 := hid_mk (grown_neK hmF5.out hg6 hgl5.out); have hL6 := hid_mk (mgs_map hmF5.out hg6 hL5.out hLn.out); have hkr6 := hid_mk (hkr5.out.trans (KR.map hmF5.out hgw hg6)); have hok6 := hid_mk (hok5.out.kr (KR.map hmF5.out hgw hg6)); have hmF6 := hid_mk hM6; clear hg6 hM6) | (at_mapUpdate; refine mapI_update rfl _ _ _ 52 rfl 3 4 Tryd.underlying3 Tryd.underlying52 gw _ G2 rfl hmG6.out (by unfold maxLen; omega) _ rfl hwf (.bool sw) rfl ?_; intro w7 hM7 hg7; have q7 : Below w.heap.size w w7 := grown_below q6 hg7 (fun k hk => by cases hk; exact zr); have hX7 := hid_mk (grown_neK hmG6.out hg7 hX6.out); have hown7 := hid_mk (own_map hmG6.out hg7 hown6.out); have hmF7 := hid_mk (hmF6.out.grown hg7 hgne); have hgl7 := hid_mk (grown_neK hmG6.out hg7 hgl6.out); have hL7m := hid_mk (mgs_map hmG6.out hg7 hL6.out hLn.out); have hkr7 := hid_mk (hkr6.out.trans (KR.map hmG6.out zr hg7)); have hok7 := hid_mk (hok6.out.kr (KR.map hmG6.out zr hg7)); have hmG7 := hid_mk hM7; clear hg7 hM7; clear xl x0 x1 x2 x3 x4 x5 x6 x7 x8 x9 x10 x11 x12 x13; obtain ⟨xl, x0, x1, x2, x3, x4, x5, x6, x7, x8, x9, x10, x11, x12, x13⟩ := blk14c hX7.out) | (at_builtin; refine wpList_append_any _ rfl (.tmp 102) (.tmp 103) _ rfl w.heap.size 32 i0 _ 11 128 Tryd.underlying37 hi0 hz0 hz1 hz2 rfl (by omega) _ n9 _ rfl hown7.out 0 A1 n1 c1 _ rfl hL7m.out.1 (msg_one _) (by simp only [maxLen]; omega) (by omega) q7.size ?_; intro v1 w8 hown8 hg8 hat8; have q8 : Below w.heap.size w w8 := grown_below q7 hg8 (fun k hk => (World.ownsRow.lt hown7.out k hk).1); have hmF8 := hid_mk (hmF7.out.grown hg8 (map_ne_own hmF7.out hown7.out)); have hmG8 := hid_mk (hmG7.out.grown hg8 (map_ne_own hmG7.out hown7.out)); have hgl8 := hid_mk (hgl7.out.grown hg8 (own_ne hown7.out hgl7.out)); have hkr8 := hid_mk (hkr7.out.trans (KR.own hown7.out hg8)); have hok8 := hid_mk (hok7.out.kr (KR.own hown7.out hg8)); replace hown8 := hid_mk hown8; clear hg8 hat8))
          have hPlay2 : Hid (Play w V T one two gm gw w8 v1 (b + 1) (n9 + n1) (updN f x ⟨x, ⟨T, x, ⟨0, 0, []⟩, ⟨#[]⟩, V⟩, 1, 0, 10, 0, [x], []⟩) (updB won x sw) (ms ++ L) (updI F2 x (.agg #[.int .i64 x, .int .i64 T, .int .i64 x, .int .i64 0, .int .i64 0, .slice a2.R.A a2.R.n a2.R.c, .string ⟨#[]⟩, .slice a2.V.A a2.V.n a2.V.c, .int .i64 1, .int .i64 0, .int .i64 10, .int .i64 0, .slice a2.G.A a2.G.n a2.G.c, .slice a2.P.A a2.P.n a2.P.c])) (updI G2 x (.bool sw))) := by
            refine ⟨?_, hmF8.out, hmG8.out, play_nd hnd.out hkr8.out hok8.out, play_wn hwn.out, fun m hm => ?_⟩
            · rw [← mgs_appM]
              exact hown8.out
            · rcases List.mem_append.1 hm with h | h
              · exact hask.out m h
              · exact hLa.out m h
          go_roundw
          case rel => exact ⟨k2 + 1, n9 + n1, b + 1, _, _, _, _, _, by go_num, by omega, q8, hPlay2, by omega, hgl8, hbeg2, by omega⟩
          case measure => simp [intOf]; omega
      obtain rfl : k2 = 2 := by omega
      have hInv0 : Hid (InvP V T one two f won) := beg_inv hz.out hT h12.out.1 h12.out.2.1 h12.out.2.2 hBeg.out
      obtain ⟨A9, c9, rfl, ho1, ho2⟩ := own_slice hPlay.out.own
      clear hBeg hgl0
      rw [show ((2 : Nat) : Int) = 2 from rfl]
      go_wp2
      go_loopw [108] (fun i wy => ∃ (k b : Nat) (f : Int → Nd) (won : Int → Bool) (ms : List Ms) (F G : Int → Option Value), i = .int .i64 k ∧ k ≤ n9 ∧ Below w.heap.size w wy ∧ Hid (Play w V T one two gm gw wy (.slice A9 n9 c9) b n9 f won ms F G) ∧ b ≤ 9 + 2 * k ∧ Hid (InvP V T one two f won)) (fun i _ => n9 - (intOf i).toNat)
      case atStart => exact ⟨0, b, f, won, ms, F2, G2, rfl, Nat.zero_le _, hb2, hPlay, by omega, hInv0⟩
      case round =>
        clear hPlay hInv0 hb2 hbb
        obtain ⟨k, b, f, won, ms, F, G, rfl, hk, hb, hPlay, hbb, hInv⟩ := hrel
        have zr3 := hb.size
        by_cases hlt3 : k < n9
        · obtain ⟨ga, hA9, hga, hgal, hgaf⟩ := own_blk hPlay.out.own (by omega)
          subst hA9
          have hml := hid_mk (own_len hPlay.out.own)
          go_upto_if 114 with fail
          go_cut [20, 114] from 115 to 198 (fun _ _ wx => ∃ (ms' : List Ms), Below w.heap.size w wx ∧ Hid (Play w V T one two gm gw wx (.slice (some ⟨ga, 0, none⟩) n9 c9) b n9 f won ms' F G))
          case first =>
            by_cases hko : k < on
            case neg =>
              go_wp2
              go_meet
              exact ⟨ms, hb, hPlay⟩
            obtain ⟨bo, oo, oq, rfl, hbo, hdo, hco⟩ := (hO0.to hb).at_ hko
            have hoq := hos.out oq (List.mem_of_mem_drop (by rw [hdo.out]; exact .head _))
            clear hdo
            have hd0 : ¬ ((n9 : Int) - k = 0) := by omega
            have hw1 : IntKind.i64.wrap ((n9 : Int) - k) = (n9 : Int) - k := IntWalk.i64_in _ (by omega)
            obtain ⟨j, hj, hjn⟩ := pick_idx oq hlt3 (by omega)
            obtain ⟨mi, hmi⟩ : ∃ m, ms[k]? = some m := ⟨_, List.getElem?_eq_getElem (by rw [hml.out]; omega)⟩
            obtain ⟨mj, hmj⟩ : ∃ m, ms[j]? = some m := ⟨_, List.getElem?_eq_getElem (by rw [hml.out]; omega)⟩
            have hci := own_msg hPlay.out.own hmi
            have hcj := own_msg hPlay.out.own hmj
            go_upto_region 26 with fail
            rw [hj]
            clear hj hco hd0 hw1
            refine wp_region_U (fun w' => (w'.cell? ⟨ga, k * 11, none⟩ = some (.int .i64 mi.kind) ∧ w'.cell? ⟨ga, k * 11 + 1, none⟩ = some (.int .i64 mi.fr) ∧ w'.cell? ⟨ga, k * 11 + 2, none⟩ = some (.int .i64 mi.to) ∧ w'.cell? ⟨ga, k * 11 + 3, none⟩ = some (.int .i64 mi.term) ∧ w'.cell? ⟨ga, k * 11 + 4, none⟩ = some (.bool mi.ok) ∧ w'.cell? ⟨ga, k * 11 + 5, none⟩ = some (.int .i64 mi.index) ∧ w'.cell? ⟨ga, k * 11 + 6, none⟩ = some (.int .i64 mi.lterm) ∧ w'.cell? ⟨ga, k * 11 + 7, none⟩ = some (.slice none 0 0) ∧ w'.cell? ⟨ga, k * 11 + 8, none⟩ = some (.int .i64 mi.commit) ∧ w'.cell? ⟨ga, k * 11 + 9, none⟩ = some (.string mi.s) ∧ w'.cell? ⟨ga, k * 11 + 10, none⟩ = some (.slice none 0 0)) ∧ (w'.cell? ⟨ga, j * 11, none⟩ = some (.int .i64 mj.kind) ∧ w'.cell? ⟨ga, j * 11 + 1, none⟩ = some (.int .i64 mj.fr) ∧ w'.cell? ⟨ga, j * 11 + 2, none⟩ = some (.int .i64 mj.to) ∧ w'.cell? ⟨ga, j * 11 + 3, none⟩ = some (.int .i64 mj.term) ∧ w'.cell? ⟨ga, j * 11 + 4, none⟩ = some (.bool mj.ok) ∧ w'.cell? ⟨ga, j * 11 + 5, none⟩ = some (.int .i64 mj.index) ∧ w'.cell? ⟨ga, j * 11 + 6, none⟩ = some (.int .i64 mj.lterm) ∧ w'.cell? ⟨ga, j * 11 + 7, none⟩ = some (.slice none 0 0) ∧ w'.cell? ⟨ga, j * 11 + 8, none⟩ = some (.int .i64 mj.commit) ∧ w'.cell? ⟨ga, j * 11 + 9, none⟩ = some (.string mj.s) ∧ w'.cell? ⟨ga, j * 11 + 10, none⟩ = some (.slice none 0 0))) 13 16 (by kernel_rfl) (by kernel_rfl) (by exact ⟨hci, hcj⟩) (fun hS0 => ?_)
            have hP := hPlay.out
            have hown1 : wr.drew.ownsRow w.heap.size 32 11 (.slice (some ⟨ga, 0, none⟩) n9 c9) n9 (mgsL (pairM ms)) := hP.own.drew
            have hmF1 := hP.mF.drew
            have hmG1 := hP.mG.drew
            have hk1 : KR wr wr.drew w.heap.size := ⟨Nat.le_refl _, fun _ _ h _ => h⟩
            have q1 : Below w.heap.size w wr.drew := by go_grown
            obtain ⟨wd, hwd⟩ : ∃ x, wr.drew = x := ⟨_, rfl⟩
            rw [hwd] at hS0 hown1 hmF1 hmG1 hk1 q1 ⊢
            clear hwd
            have hgal1 : ga < wd.heap.size := Nat.lt_of_lt_of_le hgal hk1.1
            obtain ⟨_, _, _, _, hfz⟩ := own_blk hown1 (by omega)
            rename_i hh1 hh2 hh3
            clear hh2 hh3
            injection hh1 with hh1
            injection hh1 with hh1
            subst hh1
            refine wpAnyU_take0 (i := 0) rfl (by kernel_rfl) (by kernel_rfl) (by kernel_rfl) (by decide) (fun _ _ _ h => h) (by kernel_rfl) (fun w' => (by go_simp; try with_reducible rfl)) (fun _ => hS0) ?_
            simp only [Act.put]
            refine wpAnyU_take0 (i := 1) rfl (by kernel_rfl) (by kernel_rfl) (by kernel_rfl) (by decide) (fun _ _ _ h => h) (by kernel_rfl) (fun w' => (by go_simp; try with_reducible rfl)) (fun _ => hS0) ?_
            simp only [Act.put]
            refine wpAnyU_take0 (i := 2) rfl (by kernel_rfl) (by kernel_rfl) (by kernel_rfl) (by decide) (fun _ _ _ h => h) (by kernel_rfl) (fun w' => (by go_simp; try with_reducible rfl)) (fun _ => hS0) ?_
            simp only [Act.put]
            refine wpAnyU_take0 (i := 3) rfl (by kernel_rfl) (by kernel_rfl) (by kernel_rfl) (by decide) (fun _ _ _ h => h) (by kernel_rfl) (fun w' => (by go_simp; try with_reducible rfl)) (fun _ => hS0) ?_
            simp only [Act.put]
            refine wpAnyU_take0 (i := 4) rfl (by kernel_rfl) (by kernel_rfl) (by kernel_rfl) (by decide) (fun _ _ _ h => h) (by kernel_rfl) (fun w' => (by go_simp; try with_reducible rfl)) (fun _ => hS0) ?_
            simp only [Act.put]
            refine wpAnyU_take0 (i := 5) rfl (by kernel_rfl) (by kernel_rfl) (by kernel_rfl) (by decide) (fun _ _ _ h => h) (by kernel_rfl) (fun w' => (by go_simp; try with_reducible rfl)) (fun _ => hS0) ?_
            simp only [Act.put]
            refine wpAnyU_take0 (i := 6) rfl (by kernel_rfl) (by kernel_rfl) (by kernel_rfl) (by decide) (fun _ _ _ h => h) (by kernel_rfl) (fun w' => (by go_simp; try with_reducible rfl)) (fun _ => hS0) ?_
            simp only [Act.put]
            refine wpAnyU_take (i := 7) rfl (by kernel_rfl) (by kernel_rfl) (by kernel_rfl) (by decide) rfl (by kernel_rfl) (fun _ _ _ h => h) (by kernel_rfl) (fun w' hS => (by obtain ⟨⟨s0, s1, s2, s3, s4, s5, s6, s7, s8, s9, s10⟩, ⟨r0, r1, r2, r3, r4, r5, r6, r7, r8, r9, r10⟩⟩ := hS; go_simp; try with_reducible rfl)) hS0 ?_
            simp only [Act.put]
            refine wpAnyU_take0 (i := 8) rfl (by kernel_rfl) (by kernel_rfl) (by kernel_rfl) (by decide) (fun _ _ _ h => h) (by kernel_rfl) (fun w' => (by go_simp; try with_reducible rfl)) (fun _ => hS0) ?_
            simp only [Act.put]
            refine wpAnyU_take0 (i := 9) rfl (by kernel_rfl) (by kernel_rfl) (by kernel_rfl) (by decide) (fun _ _ _ h => h) (by kernel_rfl) (fun w' => (by go_simp; try with_reducible rfl)) (fun _ => hS0) ?_
            simp only [Act.put]
            refine wpAnyU_take0 (i := 10) rfl (by kernel_rfl) (by kernel_rfl) (by kernel_rfl) (by decide) (fun _ _ _ h => h) (by kernel_rfl) (fun w' => (by go_simp; try with_reducible rfl)) (fun _ => hS0) ?_
            simp only [Act.put]
            refine wpAnyU_take (i := 11) rfl (by kernel_rfl) (by kernel_rfl) (by kernel_rfl) (by decide) rfl (by kernel_rfl) (fun _ _ _ h => h) (by kernel_rfl) (fun w' hS => (by obtain ⟨⟨s0, s1, s2, s3, s4, s5, s6, s7, s8, s9, s10⟩, ⟨r0, r1, r2, r3, r4, r5, r6, r7, r8, r9, r10⟩⟩ := hS; go_simp; try with_reducible rfl)) hS0 ?_
            simp only [Act.put]
            refine wpAnyU_take0 (i := 12) rfl (by kernel_rfl) (by kernel_rfl) (by kernel_rfl) (by decide) (fun _ _ _ h => h) (by kernel_rfl) (fun w' => (by go_simp; try with_reducible rfl)) (fun _ => hS0) ?_
            simp only [Act.put]
            refine wpAnyU_one (i := 13) (by kernel_rfl) rfl rfl (fun K hK => ?_)
            go_simp
            have hown2 := own_set11 (m := mj) hown1 (by omega : k < n9)
            have hmF2 := map_setL (g := ga) (o := k * 11) (cs := [.int .i64 mj.kind, .int .i64 mj.fr, .int .i64 mj.to, .int .i64 mj.term, .bool mj.ok, .int .i64 mj.index, .int .i64 mj.lterm, .slice none 0 0, .int .i64 mj.commit, .string mj.s, .slice none 0 0]) hmF1 (map_neK hmF1 hown1)
            have hmG2 := map_setL (g := ga) (o := k * 11) (cs := [.int .i64 mj.kind, .int .i64 mj.fr, .int .i64 mj.to, .int .i64 mj.term, .bool mj.ok, .int .i64 mj.index, .int .i64 mj.lterm, .slice none 0 0, .int .i64 mj.commit, .string mj.s, .slice none 0 0]) hmG1 (map_neK hmG1 hown1)
            have hk2 := hk1.trans (KR.stL (o := k * 11) (cs := [.int .i64 mj.kind, .int .i64 mj.fr, .int .i64 mj.to, .int .i64 mj.term, .bool mj.ok, .int .i64 mj.index, .int .i64 mj.lterm, .slice none 0 0, .int .i64 mj.commit, .string mj.s, .slice none 0 0]) hown1)
            have q2 := setL_below hga [.int .i64 mj.kind, .int .i64 mj.fr, .int .i64 mj.to, .int .i64 mj.term, .bool mj.ok, .int .i64 mj.index, .int .i64 mj.lterm, .slice none 0 0, .int .i64 mj.commit, .string mj.s, .slice none 0 0] _ (k * 11) q1
            rw [← set11_eq] at hmF2 hmG2 hk2 q2
            obtain ⟨wy, hwy⟩ : ∃ x, set11 wd ga (k * 11) (.int .i64 mj.kind) (.int .i64 mj.fr) (.int .i64 mj.to) (.int .i64 mj.term) (.bool mj.ok) (.int .i64 mj.index) (.int .i64 mj.lterm) (.slice none 0 0) (.int .i64 mj.commit) (.string mj.s) (.slice none 0 0) = x := ⟨_, rfl⟩
            rw [hwy] at hown2 hmF2 hmG2 hk2 q2
            unfold set11 at hwy
            rw [hwy]
            clear hwy
            clear hS0
            refine hK.out _ _ ?_
            clear hK K
            try simp only [Act.put]
            refine wpAnyU_one (i := 14) (by kernel_rfl) rfl rfl (fun K hK => ?_)
            go_simp
            obtain ⟨mx, hmx⟩ : ∃ m, (ms.set k mj)[j]? = some m := ⟨_, List.getElem?_eq_getElem (by rw [List.length_set, hml.out]; omega)⟩
            obtain ⟨_, hgg, _, hgal2, hfz⟩ := own_blk hown2 (by omega)
            injection hgg with hgg
            injection hgg with hgg
            subst hgg
            obtain ⟨a0, a1, a2, a3, a4, a5, a6, a7, a8, a9, a10⟩ := own_msg hown2 hmx
            refine hK.out _ _ ?_
            clear hK K
            try simp only [Act.put]
            refine wpAnyU_one (i := 15) (by kernel_rfl) rfl rfl (fun K hK => ?_)
            go_simp
            have hown3 := own_set11 (m := mi) hown2 (by omega : j < n9)
            have hmF3 := map_setL (g := ga) (o := j * 11) (cs := [.int .i64 mi.kind, .int .i64 mi.fr, .int .i64 mi.to, .int .i64 mi.term, .bool mi.ok, .int .i64 mi.index, .int .i64 mi.lterm, .slice none 0 0, .int .i64 mi.commit, .string mi.s, .slice none 0 0]) hmF2 (map_neK hmF2 hown2)
            have hmG3 := map_setL (g := ga) (o := j * 11) (cs := [.int .i64 mi.kind, .int .i64 mi.fr, .int .i64 mi.to, .int .i64 mi.term, .bool mi.ok, .int .i64 mi.index, .int .i64 mi.lterm, .slice none 0 0, .int .i64 mi.commit, .string mi.s, .slice none 0 0]) hmG2 (map_neK hmG2 hown2)
            have hk3 := hk2.trans (KR.stL (o := j * 11) (cs := [.int .i64 mi.kind, .int .i64 mi.fr, .int .i64 mi.to, .int .i64 mi.term, .bool mi.ok, .int .i64 mi.index, .int .i64 mi.lterm, .slice none 0 0, .int .i64 mi.commit, .string mi.s, .slice none 0 0]) hown2)
            have q3 := setL_below hga [.int .i64 mi.kind, .int .i64 mi.fr, .int .i64 mi.to, .int .i64 mi.term, .bool mi.ok, .int .i64 mi.index, .int .i64 mi.lterm, .slice none 0 0, .int .i64 mi.commit, .string mi.s, .slice none 0 0] _ (j * 11) q2
            rw [← set11_eq] at hmF3 hmG3 hk3 q3
            obtain ⟨wz, hwz⟩ : ∃ x, set11 wy ga (j * 11) (.int .i64 mi.kind) (.int .i64 mi.fr) (.int .i64 mi.to) (.int .i64 mi.term) (.bool mi.ok) (.int .i64 mi.index) (.int .i64 mi.lterm) (.slice none 0 0) (.int .i64 mi.commit) (.string mi.s) (.slice none 0 0) = x := ⟨_, rfl⟩
            rw [hwz] at hown3 hmF3 hmG3 hk3 q3
            unfold set11 at hwz
            rw [hwz]
            clear hwz
            refine hK.out _ _ ?_
            clear hK K
            try simp only [Act.put]
            refine wpAnyU_done (by kernel_rfl) ?_ _
            go_wp2
            go_meet
            refine ⟨swapM ms k j mi mj, q3, hown3, hmF3, hmG3, fun v hv => ?_, hP.wn, fun m hm => hP.ask m (swap_mem (List.mem_of_getElem? hmi) (List.mem_of_getElem? hmj) hm)⟩
            obtain ⟨a, h1, h2⟩ := hP.nd v hv
            exact ⟨a, h1, h2.kr hk3⟩
          case rest =>
            clear hPlay hml hb hgal hgaf
            obtain ⟨ms', hbc, hPlay⟩ := hcut
            obtain ⟨wo, hwo⟩ : ∃ x, x = wc := ⟨wc, rfl⟩
            subst hwo
            have zc := hbc.size
            obtain ⟨m, hmk⟩ : ∃ m, ms'[k]? = some m := ⟨_, List.getElem?_eq_getElem (by rw [own_len hPlay.out.own]; omega)⟩
            obtain ⟨cm0, cm1, cm2, cm3, cm4, cm5, cm6, cm7, cm8, cm9, cm10⟩ := own_msg hPlay.out.own hmk
            have hgal2 : ga < wo.heap.size := cell_lt cm0
            have hask := hid_mk (hPlay.out.ask m (List.mem_of_getElem? hmk))
            obtain ⟨k1, k2', k3, k4, k5, k6, k7, k8, k9, k10, k11⟩ := hask.out
            have hfrV : Hid (m.fr ∈ V) := by
              rcases k3 with e | e
              · rw [e]; exact h12.out.1
              · rw [e]; exact h12.out.2.1
            have hb1x := hdg.out m.to k4
            have hb2x := hdg.out m.fr hfrV.out
            have hwt : (Lit.int .i64 m.to).wf = true := WalkArith.wf_i64 (by omega)
            have hwr : (Lit.int .i64 m.fr).wf = true := WalkArith.wf_i64 (by omega)
            have hne : Hid (m.to ≠ m.fr) := k5
            have hmT : Hid (m.term = T) := k6
            have hmto : Hid (m.to ∈ V) := k4
            obtain ⟨at', hFt, hOkt⟩ := hPlay.out.nd m.to k4
            obtain ⟨af, hFf, hOkf⟩ := hPlay.out.nd m.fr hfrV.out
            have hvp : Hid (voteP (laterN (f m.to) T) m = true) := voteP_ask hT.2 hask.out (hInv.out.nd _ k4)
            obtain ⟨Nt, hNt⟩ : ∃ N, f m.to = N := ⟨_, rfl⟩
            obtain ⟨Nf, hNf⟩ : ∃ N, f m.fr = N := ⟨_, rfl⟩
            rw [hNt] at hFt hOkt hvp
            rw [hNf] at hFf hOkf
            obtain ⟨N1, hN1⟩ : ∃ z, laterN Nt m.term = z := ⟨_, rfl⟩
            obtain ⟨a1, ha1⟩ : ∃ z, laterA Nt m.term at' = z := ⟨_, rfl⟩
            obtain ⟨N2, hN2⟩ : ∃ z, voteN N1 m 10 = z := ⟨_, rfl⟩
            obtain ⟨gv, hgv⟩ : ∃ z, voteG N1 m = z := ⟨_, rfl⟩
            obtain ⟨L, hL⟩ : ∃ z, voteL N1 m = z := ⟨_, rfl⟩
            have hLe : Hid (L = [⟨2, N1.id, m.fr, N1.h.t, gv, 0, 0, [], 0, ⟨#[]⟩, []⟩]) := by
              rw [Hid, ← hL, ← hgv]
              refine voteL_yes ?_
              rw [← hN1, hmT.out]
              exact hvp.out
            have hLs : Hid (∀ M ∈ L, M.rs = [] ∧ M.vs = [] ∧ M.s.size = 0) := by
              rw [hLe.out]
              intro M hM
              rw [List.mem_singleton] at hM
              subst hM
              exact ⟨rfl, rfl, rfl⟩
            obtain ⟨C, hC⟩ : ∃ z, countN Nf ⟨2, N1.id, m.fr, N1.h.t, gv, 0, 0, [], 0, ⟨#[]⟩, []⟩ = z := ⟨_, rfl⟩
            obtain ⟨wn, hwn'⟩ : ∃ z, countW Nf ⟨2, N1.id, m.fr, N1.h.t, gv, 0, 0, [], 0, ⟨#[]⟩, []⟩ = z := ⟨_, rfl⟩
            have hstep : Hid (InvP V T one two (updN (updN f m.to N2) m.fr C) (updB won m.fr (won m.fr || wn))) := by
              refine inv_step hz.out hT h12.out.1 h12.out.2.1 hInv.out hask.out (N1 := N1) ?_ hN2 ?_ ?_
              · rw [hNt, ← hN1, hmT.out]
              · rw [hNf, ← hC, ← hgv]; rfl
              · rw [hNf, ← hwn', ← hgv]; rfl
            have hMo : Hid (MsOk wo w.heap.size m nilMA) := nilMA_ok k9 k10 k11
            replace hNt := hid_mk hNt
            replace hNf := hid_mk hNf
            replace hN1 := hid_mk hN1
            replace ha1 := hid_mk ha1
            replace hN2 := hid_mk hN2
            replace hgv := hid_mk hgv
            replace hL := hid_mk hL
            replace hC := hid_mk hC
            replace hwn' := hid_mk hwn'
            replace hFt := hid_mk hFt
            replace hFf := hid_mk hFf
            replace hOkt := hid_mk hOkt
            replace hOkf := hid_mk hOkf
            clear k1 k2' k3 k4 k5 k6 k7 k8 k9 k10 k11 hmk
            have hB : Hid (Blk (wo.alloc (.cells #[.int .i64 m.kind, .int .i64 m.fr, .int .i64 m.to, .int .i64 m.term, .bool m.ok, .int .i64 m.index, .int .i64 m.lterm, .slice none 0 0, .int .i64 m.commit, .string m.s, .slice none 0 0] 32)) wo.heap.size 32 #[.int .i64 m.kind, .int .i64 m.fr, .int .i64 m.to, .int .i64 m.term, .bool m.ok, .int .i64 m.index, .int .i64 m.lterm, .slice none 0 0, .int .i64 m.commit, .string m.s, .slice none 0 0]) := Blk.new _ _ _
            have hMF := hid_mk (hPlay.out.mF.alloc (.cells #[.int .i64 m.kind, .int .i64 m.fr, .int .i64 m.to, .int .i64 m.term, .bool m.ok, .int .i64 m.index, .int .i64 m.lterm, .slice none 0 0, .int .i64 m.commit, .string m.s, .slice none 0 0] 32))
            have hMG := hid_mk (hPlay.out.mG.alloc (.cells #[.int .i64 m.kind, .int .i64 m.fr, .int .i64 m.to, .int .i64 m.term, .bool m.ok, .int .i64 m.index, .int .i64 m.lterm, .slice none 0 0, .int .i64 m.commit, .string m.s, .slice none 0 0] 32))
            have hOwn := hid_mk (hPlay.out.own.alloc (.cells #[.int .i64 m.kind, .int .i64 m.fr, .int .i64 m.to, .int .i64 m.term, .bool m.ok, .int .i64 m.index, .int .i64 m.lterm, .slice none 0 0, .int .i64 m.commit, .string m.s, .slice none 0 0] 32))
            have hKr : Hid (KR wo (wo.alloc (.cells #[.int .i64 m.kind, .int .i64 m.fr, .int .i64 m.to, .int .i64 m.term, .bool m.ok, .int .i64 m.index, .int .i64 m.lterm, .slice none 0 0, .int .i64 m.commit, .string m.s, .slice none 0 0] 32)) w.heap.size) := .alloc _ _
            have q27 : Below w.heap.size w (wo.alloc (.cells #[.int .i64 m.kind, .int .i64 m.fr, .int .i64 m.to, .int .i64 m.term, .bool m.ok, .int .i64 m.index, .int .i64 m.lterm, .slice none 0 0, .int .i64 m.commit, .string m.s, .slice none 0 0] 32)) := by go_grown
            obtain ⟨w27, hw27⟩ : ∃ x, wo.alloc (.cells #[.int .i64 m.kind, .int .i64 m.fr, .int .i64 m.to, .int .i64 m.term, .bool m.ok, .int .i64 m.index, .int .i64 m.lterm, .slice none 0 0, .int .i64 m.commit, .string m.s, .slice none 0 0] 32) = x := ⟨_, rfl⟩
            obtain ⟨gB, hgB⟩ : ∃ g, wo.heap.size = g := ⟨_, rfl⟩
            rw [hw27] at hB hMF hMG hOwn hKr q27
            rw [hgB] at hB
            have hgBw : w.heap.size ≤ gB := by rw [← hgB]; exact zc
            replace hw27 := hid_mk hw27
            replace hgB := hid_mk hgB
            go_upto_region 28 with fail
            rw [hgB.out, hw27.out]
            clear cm0 cm1 cm2 cm3 cm4 cm5 cm6 cm7 cm8 cm9 cm10 hgal2
            go_cut [22, 23] from 154 to 198 (fun p22 p23 wx => ∃ (g22 : Nat) (Ao : Option Addr) (no co : Nat), p22 = .pointer (some ⟨g22, 0, none⟩) ∧ p23 = .slice Ao no co ∧ ¬ g22 = gB ∧ w.heap.size ≤ g22 ∧ Below w.heap.size w wx ∧ Hid (Blk wx gB 32 #[.int .i64 m.kind, .int .i64 m.fr, .int .i64 m.to, .int .i64 m.term, .bool m.ok, .int .i64 m.index, .int .i64 m.lterm, .slice none 0 0, .int .i64 m.commit, .string m.s, .slice none 0 0]) ∧ Hid (Blk wx g22 30 #[.int .i64 N2.id, .int .i64 N2.h.t, .int .i64 N2.h.v, .int .i64 N2.h.l.base, .int .i64 N2.h.l.bt, .slice a1.R.A a1.R.n a1.R.c, .string N2.h.s, .slice a1.V.A a1.V.n a1.V.c, .int .i64 N2.role, .int .i64 N2.lead, .int .i64 N2.timer, .int .i64 N2.commit, .slice a1.G.A a1.G.n a1.G.c, .slice a1.P.A a1.P.n a1.P.c]) ∧ Hid (Mgs wx 0 Ao no (L.map fun M => (M, nilMA))) ∧ Hid (MapI Tryd.prog wx 3 gm b F) ∧ Hid (MapI Tryd.prog wx 3 gw b G) ∧ Hid (wx.ownsRow w.heap.size 32 11 (.slice (some ⟨ga, 0, none⟩) n9 c9) n9 (mgsL (pairM ms'))) ∧ Hid (KR wo wx w.heap.size))
            case first =>
              refine wp_region_T' (fun w' => (w'.cell? ⟨gB, 0, none⟩ = some (.int .i64 m.kind) ∧ w'.cell? ⟨gB, 1, none⟩ = some (.int .i64 m.fr) ∧ w'.cell? ⟨gB, 2, none⟩ = some (.int .i64 m.to) ∧ w'.cell? ⟨gB, 3, none⟩ = some (.int .i64 m.term) ∧ w'.cell? ⟨gB, 4, none⟩ = some (.bool m.ok) ∧ w'.cell? ⟨gB, 5, none⟩ = some (.int .i64 m.index) ∧ w'.cell? ⟨gB, 6, none⟩ = some (.int .i64 m.lterm) ∧ w'.cell? ⟨gB, 7, none⟩ = some (.slice none 0 0) ∧ w'.cell? ⟨gB, 8, none⟩ = some (.int .i64 m.commit) ∧ w'.cell? ⟨gB, 9, none⟩ = some (.string m.s) ∧ w'.cell? ⟨gB, 10, none⟩ = some (.slice none 0 0)) ∧ MapI Tryd.prog w' 3 gm b F) (fun j => decide (j < 15)) 15 (by kernel_rfl) (by kernel_rfl) (by exact ⟨(blk11v hB.out).2, hMF.out⟩) (fun hS0 => ?_)
              replace hB := hid_mk hB.out.drew
              replace hMF := hid_mk hMF.out.drew
              replace hMG := hid_mk hMG.out.drew
              replace hOwn := hid_mk hOwn.out.drew
              replace hKr : Hid (KR wo w27.drew w.heap.size) := hKr.out.trans ⟨Nat.le_refl _, fun _ _ h _ => h⟩
              have q27d : Below w.heap.size w w27.drew := by go_grown
              obtain ⟨wd, hwd⟩ : ∃ x, w27.drew = x := ⟨_, rfl⟩
              rw [hwd] at hS0 hB hMF hMG hOwn hKr q27d ⊢
              clear hwd
              clear q27
              have zq27d := q27d.size
              have hOkd : Hid (NdOk wd w.heap.size Nt at') := hOkt.out.kr hKr.out
              have hOk1 : Hid (NdOk wd w.heap.size N1 a1) := by rw [← hN1.out, ← ha1.out]; exact laterOk hOkd.out m.term
              replace hMo : Hid (MsOk wd w.heap.size m nilMA) := hMo.out.kr' hKr.out
              refine wpAnyT_take (i := 0) rfl (by kernel_rfl) (by kernel_rfl) (by kernel_rfl) rfl (by kernel_rfl) (fun _ _ _ h => h) (by kernel_rfl) (fun w' hS => (by obtain ⟨⟨s0, s1, s2, s3, s4, s5, s6, s7, s8, s9, s10⟩, hSm⟩ := hS; go_simp; try with_reducible rfl)) hS0 ?_
              simp only [Act.put]
              refine wpAnyT_take (i := 1) rfl (by kernel_rfl) (by kernel_rfl) (by kernel_rfl) rfl (by kernel_rfl) (fun _ _ _ h => h) (by kernel_rfl) (fun w' hS => (by obtain ⟨⟨s0, s1, s2, s3, s4, s5, s6, s7, s8, s9, s10⟩, hSm⟩ := hS; go_simp; try with_reducible rfl)) hS0 ?_
              simp only [Act.put]
              refine wpAnyT_take (i := 2) rfl (by kernel_rfl) (by kernel_rfl) (by kernel_rfl) rfl (by kernel_rfl) (fun _ _ _ h => h) (by kernel_rfl) (fun w' hS => (by obtain ⟨⟨s0, s1, s2, s3, s4, s5, s6, s7, s8, s9, s10⟩, hSm⟩ := hS; go_simp; try with_reducible rfl)) hS0 ?_
              simp only [Act.put]
              refine wpAnyT_take (i := 3) rfl (by kernel_rfl) (by kernel_rfl) (by kernel_rfl) rfl (by kernel_rfl) (fun _ _ _ h => h) (by kernel_rfl) (fun w' hS => (by obtain ⟨_, hSm⟩ := hS; exact mapI_run _ _ 51 rfl Tryd.underlying3 Tryd.underlying51 (zeroNd _) rfl hSm m.to rfl hwt (.agg #[.int .i64 Nt.id, .int .i64 Nt.h.t, .int .i64 Nt.h.v, .int .i64 Nt.h.l.base, .int .i64 Nt.h.l.bt, .slice at'.R.A at'.R.n at'.R.c, .string Nt.h.s, .slice at'.V.A at'.V.n at'.V.c, .int .i64 Nt.role, .int .i64 Nt.lead, .int .i64 Nt.timer, .int .i64 Nt.commit, .slice at'.G.A at'.G.n at'.G.c, .slice at'.P.A at'.P.n at'.P.c]) (by rw [hFt.out]; rfl))) hS0 ?_
              simp only [Act.put]
              refine wpAnyT_take (i := 4) rfl (by kernel_rfl) (by kernel_rfl) (by kernel_rfl) rfl (by kernel_rfl) (fun _ _ _ h => h) (by kernel_rfl) (fun w' hS => (by obtain ⟨⟨s0, s1, s2, s3, s4, s5, s6, s7, s8, s9, s10⟩, hSm⟩ := hS; go_simp; try with_reducible rfl)) hS0 ?_
              simp only [Act.put]
              refine wpAnyT_take (i := 5) rfl (by kernel_rfl) (by kernel_rfl) (by kernel_rfl) rfl (by kernel_rfl) (fun _ _ _ h => h) (by kernel_rfl) (fun w' hS => (by obtain ⟨⟨s0, s1, s2, s3, s4, s5, s6, s7, s8, s9, s10⟩, hSm⟩ := hS; go_simp; try with_reducible rfl)) hS0 ?_
              simp only [Act.put]
              refine wpAnyT_take (i := 7) rfl (by kernel_rfl) (by kernel_rfl) (by kernel_rfl) rfl (by kernel_rfl) (fun _ _ _ h => h) (by kernel_rfl) (fun w' hS => (by obtain ⟨⟨s0, s1, s2, s3, s4, s5, s6, s7, s8, s9, s10⟩, hSm⟩ := hS; go_simp; try with_reducible rfl)) hS0 ?_
              simp only [Act.put]
              refine wpAnyT_two (i := 6) (j := 12) (by kernel_rfl) rfl rfl (fun K hK => ?_) (fun K hK => ?_)
              · skip
                -- refine wpAnyT_one (i := 6) (by kernel_rfl) rfl (fun K hK => ?_)
                go_simp
                refine (Later_any Nt at' m.term _ (B := w.heap.size) (hOkd.out.to (by go_grown)) (ht.to (by go_grown))).mono ?_
                rw [hN1.out, ha1.out]
                rintro e w4 ⟨rfl, hb1⟩
                have q4 := (after (w := w) hb1 (by go_grown)).1
                have z4 := q4.size
                have hd4 : Below wd.heap.size wd w4 := (after (w := wd) hb1 (by go_grown)).1
                have zd4 := hd4.size
                replace hB := hid_mk (hB.out.keep hb1)
                replace hMF := hid_mk (hMF.out.to hb1)
                replace hMG := hid_mk (hMG.out.to hb1)
                replace hOwn := hid_mk (own_keep hOwn.out hb1)
                replace hKr := hid_mk (hKr.out.trans (KR.below hb1))
                clear hb1
                unfold nodeV
                refine hK.out _ _ (fun _ => ⟨(blk11v hB.out).2, hMF.out⟩) ?_
                clear hK K
                try simp only [Act.put]
                refine wpAnyT_two (i := 8) (j := 12) (by kernel_rfl) rfl rfl (fun K hK => ?_) (fun K hK => ?_)
                · skip
                  -- refine wpAnyT_one (i := 8) (by kernel_rfl) rfl (fun K hK => ?_)
                  go_simp
                  refine (Vote_any N1 a1 m nilMA 10 _ (B := w.heap.size) (hOk1.out.to (by go_grown)) (hMo.out.to (by go_grown)) (ht.to (by go_grown))).mono ?_
                  rw [hN2.out, hL.out]
                  rintro e w5 ⟨⟨Ao, no, co, rfl, hL9, hc9⟩, hb1⟩
                  have q5 := (after (w := w) hb1 (by go_grown)).1
                  have z5 := q5.size
                  replace hL9 := hid_mk hL9
                  replace hB := hid_mk (hB.out.keep hb1)
                  replace hMF := hid_mk (hMF.out.to hb1)
                  replace hMG := hid_mk (hMG.out.to hb1)
                  replace hOwn := hid_mk (own_keep hOwn.out hb1)
                  replace hKr := hid_mk (hKr.out.trans (KR.below hb1))
                  clear hb1
                  unfold nodeV
                  refine hK.out _ _ (fun _ => ⟨(blk11v hB.out).2, hMF.out⟩) ?_
                  clear hK K
                  try simp only [Act.put]
                  refine wpAnyT_take (i := 9) rfl (by kernel_rfl) (by kernel_rfl) (by kernel_rfl) rfl (by kernel_rfl) (fun _ _ _ h => h) (by kernel_rfl) (fun w' hS => (by obtain ⟨⟨s0, s1, s2, s3, s4, s5, s6, s7, s8, s9, s10⟩, hSm⟩ := hS; go_simp; try with_reducible rfl)) ⟨(blk11v hB.out).2, hMF.out⟩ ?_
                  simp only [Act.put]
                  refine wpAnyT_take (i := 10) rfl (by kernel_rfl) (by kernel_rfl) (by kernel_rfl) rfl (by kernel_rfl) (fun _ _ _ h => h) (by kernel_rfl) (fun w' hS => (by obtain ⟨⟨s0, s1, s2, s3, s4, s5, s6, s7, s8, s9, s10⟩, hSm⟩ := hS; go_simp; try with_reducible rfl)) ⟨(blk11v hB.out).2, hMF.out⟩ ?_
                  simp only [Act.put]
                  refine wpAnyT_take (i := 11) rfl (by kernel_rfl) (by kernel_rfl) (by kernel_rfl) rfl (by kernel_rfl) (fun _ _ _ h => h) (by kernel_rfl) (fun w' hS => (by obtain ⟨⟨s0, s1, s2, s3, s4, s5, s6, s7, s8, s9, s10⟩, hSm⟩ := hS; go_simp; try with_reducible rfl)) ⟨(blk11v hB.out).2, hMF.out⟩ ?_
                  simp only [Act.put]
                  refine wpAnyT_one (i := 12) (by kernel_rfl) rfl (fun K hK => ?_)
                  go_simp
                  obtain ⟨g22, hg22⟩ : ∃ g, w5.heap.size = g := ⟨_, rfl⟩
                  have hYn : Hid (Blk (w5.alloc (.cells #[.int .i64 0, .int .i64 0, .int .i64 0, .int .i64 0, .int .i64 0, .slice none 0 0, .string ⟨#[]⟩, .slice none 0 0, .int .i64 0, .int .i64 0, .int .i64 0, .int .i64 0, .slice none 0 0, .slice none 0 0] 30)) g22 30 #[.int .i64 0, .int .i64 0, .int .i64 0, .int .i64 0, .int .i64 0, .slice none 0 0, .string ⟨#[]⟩, .slice none 0 0, .int .i64 0, .int .i64 0, .int .i64 0, .int .i64 0, .slice none 0 0, .slice none 0 0]) := by rw [← hg22]; exact Blk.new _ _ _
                  have d9 : ¬ g22 = gB := by rw [← hg22]; exact Nat.ne_of_gt hB.out.lt
                  replace hB := hid_mk (hB.out.alloc (.cells #[.int .i64 0, .int .i64 0, .int .i64 0, .int .i64 0, .int .i64 0, .slice none 0 0, .string ⟨#[]⟩, .slice none 0 0, .int .i64 0, .int .i64 0, .int .i64 0, .int .i64 0, .slice none 0 0, .slice none 0 0] 30))
                  replace hMF := hid_mk (hMF.out.alloc (.cells #[.int .i64 0, .int .i64 0, .int .i64 0, .int .i64 0, .int .i64 0, .slice none 0 0, .string ⟨#[]⟩, .slice none 0 0, .int .i64 0, .int .i64 0, .int .i64 0, .int .i64 0, .slice none 0 0, .slice none 0 0] 30))
                  replace hMG := hid_mk (hMG.out.alloc (.cells #[.int .i64 0, .int .i64 0, .int .i64 0, .int .i64 0, .int .i64 0, .slice none 0 0, .string ⟨#[]⟩, .slice none 0 0, .int .i64 0, .int .i64 0, .int .i64 0, .int .i64 0, .slice none 0 0, .slice none 0 0] 30))
                  replace hOwn := hid_mk (hOwn.out.alloc (.cells #[.int .i64 0, .int .i64 0, .int .i64 0, .int .i64 0, .int .i64 0, .slice none 0 0, .string ⟨#[]⟩, .slice none 0 0, .int .i64 0, .int .i64 0, .int .i64 0, .int .i64 0, .slice none 0 0, .slice none 0 0] 30))
                  replace hKr := hid_mk (hKr.out.trans (.alloc _ (.cells #[.int .i64 0, .int .i64 0, .int .i64 0, .int .i64 0, .int .i64 0, .slice none 0 0, .string ⟨#[]⟩, .slice none 0 0, .int .i64 0, .int .i64 0, .int .i64 0, .int .i64 0, .slice none 0 0, .slice none 0 0] 30)))
                  replace hL9 := hid_mk (hL9.out.to ((Below.refl _ w5).alloc (Nat.le_refl _) (.cells #[.int .i64 0, .int .i64 0, .int .i64 0, .int .i64 0, .int .i64 0, .slice none 0 0, .string ⟨#[]⟩, .slice none 0 0, .int .i64 0, .int .i64 0, .int .i64 0, .int .i64 0, .slice none 0 0, .slice none 0 0] 30)))
                  have q8 : Below w.heap.size w (w5.alloc (.cells #[.int .i64 0, .int .i64 0, .int .i64 0, .int .i64 0, .int .i64 0, .slice none 0 0, .string ⟨#[]⟩, .slice none 0 0, .int .i64 0, .int .i64 0, .int .i64 0, .int .i64 0, .slice none 0 0, .slice none 0 0] 30)) := by go_grown
                  have d7 : w.heap.size ≤ g22 := by rw [← hg22]; exact (show Below w.heap.size w w5 by go_grown).size
                  have hY := hYn
                  clear hYn
                  rw [hg22]
                  replace hg22 := hid_mk hg22
                  refine hK.out _ _ (fun _ => ⟨(blk11v hB.out).2, hMF.out⟩) ?_
                  clear hK K
                  try simp only [Act.put]
                  obtain ⟨yl, y0, y1, y2, y3, y4, y5, y6, y7, y8, y9, y10, y11, y12, y13, yf0, yf1, yf2, yf3, yf4, yf5, yf6, yf7, yf8, yf9, yf10, yf11, yf12, yf13⟩ := blk14f hY.out
                  refine wpAnyT_one (i := 13) (by kernel_rfl) rfl (fun K hK => ?_)
                  go_simp
                  clear yl y0 y1 y2 y3 y4 y5 y6 y7 y8 y9 y10 y11 y12 y13 yf0 yf1 yf2 yf3 yf4 yf5 yf6 yf7 yf8 yf9 yf10 yf11 yf12 yf13
                  replace hB := hid_mk (set14_farS hB.out (fun e => d9 e.symm) (.int .i64 N2.id) (.int .i64 N2.h.t) (.int .i64 N2.h.v) (.int .i64 N2.h.l.base) (.int .i64 N2.h.l.bt) (.slice a1.R.A a1.R.n a1.R.c) (.string N2.h.s) (.slice a1.V.A a1.V.n a1.V.c) (.int .i64 N2.role) (.int .i64 N2.lead) (.int .i64 N2.timer) (.int .i64 N2.commit) (.slice a1.G.A a1.G.n a1.G.c) (.slice a1.P.A a1.P.n a1.P.c))
                  replace hMF := hid_mk (map_set14K hMF.out (hMF.out.ne_blk hY.out) (.int .i64 N2.id) (.int .i64 N2.h.t) (.int .i64 N2.h.v) (.int .i64 N2.h.l.base) (.int .i64 N2.h.l.bt) (.slice a1.R.A a1.R.n a1.R.c) (.string N2.h.s) (.slice a1.V.A a1.V.n a1.V.c) (.int .i64 N2.role) (.int .i64 N2.lead) (.int .i64 N2.timer) (.int .i64 N2.commit) (.slice a1.G.A a1.G.n a1.G.c) (.slice a1.P.A a1.P.n a1.P.c))
                  replace hMG := hid_mk (map_set14K hMG.out (hMG.out.ne_blk hY.out) (.int .i64 N2.id) (.int .i64 N2.h.t) (.int .i64 N2.h.v) (.int .i64 N2.h.l.base) (.int .i64 N2.h.l.bt) (.slice a1.R.A a1.R.n a1.R.c) (.string N2.h.s) (.slice a1.V.A a1.V.n a1.V.c) (.int .i64 N2.role) (.int .i64 N2.lead) (.int .i64 N2.timer) (.int .i64 N2.commit) (.slice a1.G.A a1.G.n a1.G.c) (.slice a1.P.A a1.P.n a1.P.c))
                  replace hOwn := hid_mk (own14 hOwn.out hY.out (by decide) (.int .i64 N2.id) (.int .i64 N2.h.t) (.int .i64 N2.h.v) (.int .i64 N2.h.l.base) (.int .i64 N2.h.l.bt) (.slice a1.R.A a1.R.n a1.R.c) (.string N2.h.s) (.slice a1.V.A a1.V.n a1.V.c) (.int .i64 N2.role) (.int .i64 N2.lead) (.int .i64 N2.timer) (.int .i64 N2.commit) (.slice a1.G.A a1.G.n a1.G.c) (.slice a1.P.A a1.P.n a1.P.c))
                  replace hKr := hid_mk (hKr.out.trans (KR.st14 hY.out d7 (.int .i64 N2.id) (.int .i64 N2.h.t) (.int .i64 N2.h.v) (.int .i64 N2.h.l.base) (.int .i64 N2.h.l.bt) (.slice a1.R.A a1.R.n a1.R.c) (.string N2.h.s) (.slice a1.V.A a1.V.n a1.V.c) (.int .i64 N2.role) (.int .i64 N2.lead) (.int .i64 N2.timer) (.int .i64 N2.commit) (.slice a1.G.A a1.G.n a1.G.c) (.slice a1.P.A a1.P.n a1.P.c)))
                  replace hL9 := hid_mk (mgs_set14K hL9.out hY.out (by decide) hLs.out (.int .i64 N2.id) (.int .i64 N2.h.t) (.int .i64 N2.h.v) (.int .i64 N2.h.l.base) (.int .i64 N2.h.l.bt) (.slice a1.R.A a1.R.n a1.R.c) (.string N2.h.s) (.slice a1.V.A a1.V.n a1.V.c) (.int .i64 N2.role) (.int .i64 N2.lead) (.int .i64 N2.timer) (.int .i64 N2.commit) (.slice a1.G.A a1.G.n a1.G.c) (.slice a1.P.A a1.P.n a1.P.c))
                  have qz := set14_below (.int .i64 N2.id) (.int .i64 N2.h.t) (.int .i64 N2.h.v) (.int .i64 N2.h.l.base) (.int .i64 N2.h.l.bt) (.slice a1.R.A a1.R.n a1.R.c) (.string N2.h.s) (.slice a1.V.A a1.V.n a1.V.c) (.int .i64 N2.role) (.int .i64 N2.lead) (.int .i64 N2.timer) (.int .i64 N2.commit) (.slice a1.G.A a1.G.n a1.G.c) (.slice a1.P.A a1.P.n a1.P.c) q8 d7
                  replace hY := hid_mk (set14_blk hY.out (.int .i64 N2.id) (.int .i64 N2.h.t) (.int .i64 N2.h.v) (.int .i64 N2.h.l.base) (.int .i64 N2.h.l.bt) (.slice a1.R.A a1.R.n a1.R.c) (.string N2.h.s) (.slice a1.V.A a1.V.n a1.V.c) (.int .i64 N2.role) (.int .i64 N2.lead) (.int .i64 N2.timer) (.int .i64 N2.commit) (.slice a1.G.A a1.G.n a1.G.c) (.slice a1.P.A a1.P.n a1.P.c))
                  obtain ⟨wz, hwz⟩ : ∃ wz, set14 (w5.alloc (.cells #[.int .i64 0, .int .i64 0, .int .i64 0, .int .i64 0, .int .i64 0, .slice none 0 0, .string ⟨#[]⟩, .slice none 0 0, .int .i64 0, .int .i64 0, .int .i64 0, .int .i64 0, .slice none 0 0, .slice none 0 0] 30)) g22 (.int .i64 N2.id) (.int .i64 N2.h.t) (.int .i64 N2.h.v) (.int .i64 N2.h.l.base) (.int .i64 N2.h.l.bt) (.slice a1.R.A a1.R.n a1.R.c) (.string N2.h.s) (.slice a1.V.A a1.V.n a1.V.c) (.int .i64 N2.role) (.int .i64 N2.lead) (.int .i64 N2.timer) (.int .i64 N2.commit) (.slice a1.G.A a1.G.n a1.G.c) (.slice a1.P.A a1.P.n a1.P.c) = wz := ⟨_, rfl⟩
                  rw [hwz] at hB hMF hMG hOwn hKr hY qz hL9
                  unfold set14 at hwz
                  rw [hwz]
                  clear hwz
                  refine hK.out _ _ (fun _ => ⟨(blk11v hB.out).2, hMF.out⟩) ?_
                  clear hK K
                  try simp only [Act.put]
                  refine wpAnyT_one (i := 14) (by kernel_rfl) rfl (fun K hK => ?_)
                  go_simp
                  refine hK.out _ _ (fun _ => ⟨(blk11v hB.out).2, hMF.out⟩) ?_
                  clear hK K
                  try simp only [Act.put]
                  refine wpAnyT_done (by kernel_rfl) ?_ _
                  go_wp2_with fail
                  go_meet
                  exact ⟨g22, Ao, no, co, rfl, rfl, d9, d7, qz, hB, hY, hL9, hMF, hMG, hOwn, hKr⟩
                · skip
                  -- refine wpAnyT_one (i := 12) (by kernel_rfl) rfl (fun K hK => ?_)
                  go_simp
                  obtain ⟨g22, hg22⟩ : ∃ g, w4.heap.size = g := ⟨_, rfl⟩
                  have hYn : Hid (Blk (w4.alloc (.cells #[.int .i64 0, .int .i64 0, .int .i64 0, .int .i64 0, .int .i64 0, .slice none 0 0, .string ⟨#[]⟩, .slice none 0 0, .int .i64 0, .int .i64 0, .int .i64 0, .int .i64 0, .slice none 0 0, .slice none 0 0] 30)) g22 30 #[.int .i64 0, .int .i64 0, .int .i64 0, .int .i64 0, .int .i64 0, .slice none 0 0, .string ⟨#[]⟩, .slice none 0 0, .int .i64 0, .int .i64 0, .int .i64 0, .int .i64 0, .slice none 0 0, .slice none 0 0]) := by rw [← hg22]; exact Blk.new _ _ _
                  have d9 : ¬ g22 = gB := by rw [← hg22]; exact Nat.ne_of_gt hB.out.lt
                  replace hB := hid_mk (hB.out.alloc (.cells #[.int .i64 0, .int .i64 0, .int .i64 0, .int .i64 0, .int .i64 0, .slice none 0 0, .string ⟨#[]⟩, .slice none 0 0, .int .i64 0, .int .i64 0, .int .i64 0, .int .i64 0, .slice none 0 0, .slice none 0 0] 30))
                  replace hMF := hid_mk (hMF.out.alloc (.cells #[.int .i64 0, .int .i64 0, .int .i64 0, .int .i64 0, .int .i64 0, .slice none 0 0, .string ⟨#[]⟩, .slice none 0 0, .int .i64 0, .int .i64 0, .int .i64 0, .int .i64 0, .slice none 0 0, .slice none 0 0] 30))
                  replace hMG := hid_mk (hMG.out.alloc (.cells #[.int .i64 0, .int .i64 0, .int .i64 0, .int .i64 0, .int .i64 0, .slice none 0 0, .string ⟨#[]⟩, .slice none 0 0, .int .i64 0, .int .i64 0, .int .i64 0, .int .i64 0, .slice none 0 0, .slice none 0 0] 30))
                  replace hOwn := hid_mk (hOwn.out.alloc (.cells #[.int .i64 0, .int .i64 0, .int .i64 0, .int .i64 0, .int .i64 0, .slice none 0 0, .string ⟨#[]⟩, .slice none 0 0, .int .i64 0, .int .i64 0, .int .i64 0, .int .i64 0, .slice none 0 0, .slice none 0 0] 30))
                  replace hKr := hid_mk (hKr.out.trans (.alloc _ (.cells #[.int .i64 0, .int .i64 0, .int .i64 0, .int .i64 0, .int .i64 0, .slice none 0 0, .string ⟨#[]⟩, .slice none 0 0, .int .i64 0, .int .i64 0, .int .i64 0, .int .i64 0, .slice none 0 0, .slice none 0 0] 30)))
                  have q8 : Below w.heap.size w (w4.alloc (.cells #[.int .i64 0, .int .i64 0, .int .i64 0, .int .i64 0, .int .i64 0, .slice none 0 0, .string ⟨#[]⟩, .slice none 0 0, .int .i64 0, .int .i64 0, .int .i64 0, .int .i64 0, .slice none 0 0, .slice none 0 0] 30)) := by go_grown
                  have d7 : w.heap.size ≤ g22 := by rw [← hg22]; exact (show Below w.heap.size w w4 by go_grown).size
                  have hY := hYn
                  clear hYn
                  rw [hg22]
                  replace hg22 := hid_mk hg22
                  refine hK.out _ _ (fun _ => ⟨(blk11v hB.out).2, hMF.out⟩) ?_
                  clear hK K
                  try simp only [Act.put]
                  refine wpAnyT_one (i := 8) (by kernel_rfl) rfl (fun K hK => ?_)
                  go_simp
                  refine (Vote_any N1 a1 m nilMA 10 _ (B := w.heap.size) (hOk1.out.to (by go_grown)) (hMo.out.to (by go_grown)) (ht.to (by go_grown))).mono ?_
                  rw [hN2.out, hL.out]
                  rintro e w5 ⟨⟨Ao, no, co, rfl, hL9, hc9⟩, hb1⟩
                  have q5 := (after (w := w) hb1 (by go_grown)).1
                  have z5 := q5.size
                  replace hL9 := hid_mk hL9
                  replace hB := hid_mk (hB.out.keep hb1)
                  replace hMF := hid_mk (hMF.out.to hb1)
                  replace hMG := hid_mk (hMG.out.to hb1)
                  replace hOwn := hid_mk (own_keep hOwn.out hb1)
                  replace hKr := hid_mk (hKr.out.trans (KR.below hb1))
                  replace hY := hid_mk (hY.out.keep hb1)
                  clear hb1
                  unfold nodeV
                  refine hK.out _ _ (fun _ => ⟨(blk11v hB.out).2, hMF.out⟩) ?_
                  clear hK K
                  try simp only [Act.put]
                  refine wpAnyT_take (i := 9) rfl (by kernel_rfl) (by kernel_rfl) (by kernel_rfl) rfl (by kernel_rfl) (fun _ _ _ h => h) (by kernel_rfl) (fun w' hS => (by obtain ⟨⟨s0, s1, s2, s3, s4, s5, s6, s7, s8, s9, s10⟩, hSm⟩ := hS; go_simp; try with_reducible rfl)) ⟨(blk11v hB.out).2, hMF.out⟩ ?_
                  simp only [Act.put]
                  refine wpAnyT_take (i := 10) rfl (by kernel_rfl) (by kernel_rfl) (by kernel_rfl) rfl (by kernel_rfl) (fun _ _ _ h => h) (by kernel_rfl) (fun w' hS => (by obtain ⟨⟨s0, s1, s2, s3, s4, s5, s6, s7, s8, s9, s10⟩, hSm⟩ := hS; go_simp; try with_reducible rfl)) ⟨(blk11v hB.out).2, hMF.out⟩ ?_
                  simp only [Act.put]
                  refine wpAnyT_take (i := 11) rfl (by kernel_rfl) (by kernel_rfl) (by kernel_rfl) rfl (by kernel_rfl) (fun _ _ _ h => h) (by kernel_rfl) (fun w' hS => (by obtain ⟨⟨s0, s1, s2, s3, s4, s5, s6, s7, s8, s9, s10⟩, hSm⟩ := hS; go_simp; try with_reducible rfl)) ⟨(blk11v hB.out).2, hMF.out⟩ ?_
                  simp only [Act.put]
                  obtain ⟨yl, y0, y1, y2, y3, y4, y5, y6, y7, y8, y9, y10, y11, y12, y13, yf0, yf1, yf2, yf3, yf4, yf5, yf6, yf7, yf8, yf9, yf10, yf11, yf12, yf13⟩ := blk14f hY.out
                  refine wpAnyT_one (i := 13) (by kernel_rfl) rfl (fun K hK => ?_)
                  go_simp
                  clear yl y0 y1 y2 y3 y4 y5 y6 y7 y8 y9 y10 y11 y12 y13 yf0 yf1 yf2 yf3 yf4 yf5 yf6 yf7 yf8 yf9 yf10 yf11 yf12 yf13
                  replace hB := hid_mk (set14_farS hB.out (fun e => d9 e.symm) (.int .i64 N2.id) (.int .i64 N2.h.t) (.int .i64 N2.h.v) (.int .i64 N2.h.l.base) (.int .i64 N2.h.l.bt) (.slice a1.R.A a1.R.n a1.R.c) (.string N2.h.s) (.slice a1.V.A a1.V.n a1.V.c) (.int .i64 N2.role) (.int .i64 N2.lead) (.int .i64 N2.timer) (.int .i64 N2.commit) (.slice a1.G.A a1.G.n a1.G.c) (.slice a1.P.A a1.P.n a1.P.c))
                  replace hMF := hid_mk (map_set14K hMF.out (hMF.out.ne_blk hY.out) (.int .i64 N2.id) (.int .i64 N2.h.t) (.int .i64 N2.h.v) (.int .i64 N2.h.l.base) (.int .i64 N2.h.l.bt) (.slice a1.R.A a1.R.n a1.R.c) (.string N2.h.s) (.slice a1.V.A a1.V.n a1.V.c) (.int .i64 N2.role) (.int .i64 N2.lead) (.int .i64 N2.timer) (.int .i64 N2.commit) (.slice a1.G.A a1.G.n a1.G.c) (.slice a1.P.A a1.P.n a1.P.c))
                  replace hMG := hid_mk (map_set14K hMG.out (hMG.out.ne_blk hY.out) (.int .i64 N2.id) (.int .i64 N2.h.t) (.int .i64 N2.h.v) (.int .i64 N2.h.l.base) (.int .i64 N2.h.l.bt) (.slice a1.R.A a1.R.n a1.R.c) (.string N2.h.s) (.slice a1.V.A a1.V.n a1.V.c) (.int .i64 N2.role) (.int .i64 N2.lead) (.int .i64 N2.timer) (.int .i64 N2.commit) (.slice a1.G.A a1.G.n a1.G.c) (.slice a1.P.A a1.P.n a1.P.c))
                  replace hOwn := hid_mk (own14 hOwn.out hY.out (by decide) (.int .i64 N2.id) (.int .i64 N2.h.t) (.int .i64 N2.h.v) (.int .i64 N2.h.l.base) (.int .i64 N2.h.l.bt) (.slice a1.R.A a1.R.n a1.R.c) (.string N2.h.s) (.slice a1.V.A a1.V.n a1.V.c) (.int .i64 N2.role) (.int .i64 N2.lead) (.int .i64 N2.timer) (.int .i64 N2.commit) (.slice a1.G.A a1.G.n a1.G.c) (.slice a1.P.A a1.P.n a1.P.c))
                  replace hKr := hid_mk (hKr.out.trans (KR.st14 hY.out d7 (.int .i64 N2.id) (.int .i64 N2.h.t) (.int .i64 N2.h.v) (.int .i64 N2.h.l.base) (.int .i64 N2.h.l.bt) (.slice a1.R.A a1.R.n a1.R.c) (.string N2.h.s) (.slice a1.V.A a1.V.n a1.V.c) (.int .i64 N2.role) (.int .i64 N2.lead) (.int .i64 N2.timer) (.int .i64 N2.commit) (.slice a1.G.A a1.G.n a1.G.c) (.slice a1.P.A a1.P.n a1.P.c)))
                  replace hL9 := hid_mk (mgs_set14K hL9.out hY.out (by decide) hLs.out (.int .i64 N2.id) (.int .i64 N2.h.t) (.int .i64 N2.h.v) (.int .i64 N2.h.l.base) (.int .i64 N2.h.l.bt) (.slice a1.R.A a1.R.n a1.R.c) (.string N2.h.s) (.slice a1.V.A a1.V.n a1.V.c) (.int .i64 N2.role) (.int .i64 N2.lead) (.int .i64 N2.timer) (.int .i64 N2.commit) (.slice a1.G.A a1.G.n a1.G.c) (.slice a1.P.A a1.P.n a1.P.c))
                  have qz := set14_below (.int .i64 N2.id) (.int .i64 N2.h.t) (.int .i64 N2.h.v) (.int .i64 N2.h.l.base) (.int .i64 N2.h.l.bt) (.slice a1.R.A a1.R.n a1.R.c) (.string N2.h.s) (.slice a1.V.A a1.V.n a1.V.c) (.int .i64 N2.role) (.int .i64 N2.lead) (.int .i64 N2.timer) (.int .i64 N2.commit) (.slice a1.G.A a1.G.n a1.G.c) (.slice a1.P.A a1.P.n a1.P.c) q5 d7
                  replace hY := hid_mk (set14_blk hY.out (.int .i64 N2.id) (.int .i64 N2.h.t) (.int .i64 N2.h.v) (.int .i64 N2.h.l.base) (.int .i64 N2.h.l.bt) (.slice a1.R.A a1.R.n a1.R.c) (.string N2.h.s) (.slice a1.V.A a1.V.n a1.V.c) (.int .i64 N2.role) (.int .i64 N2.lead) (.int .i64 N2.timer) (.int .i64 N2.commit) (.slice a1.G.A a1.G.n a1.G.c) (.slice a1.P.A a1.P.n a1.P.c))
                  obtain ⟨wz, hwz⟩ : ∃ wz, set14 w5 g22 (.int .i64 N2.id) (.int .i64 N2.h.t) (.int .i64 N2.h.v) (.int .i64 N2.h.l.base) (.int .i64 N2.h.l.bt) (.slice a1.R.A a1.R.n a1.R.c) (.string N2.h.s) (.slice a1.V.A a1.V.n a1.V.c) (.int .i64 N2.role) (.int .i64 N2.lead) (.int .i64 N2.timer) (.int .i64 N2.commit) (.slice a1.G.A a1.G.n a1.G.c) (.slice a1.P.A a1.P.n a1.P.c) = wz := ⟨_, rfl⟩
                  rw [hwz] at hB hMF hMG hOwn hKr hY qz hL9
                  unfold set14 at hwz
                  rw [hwz]
                  clear hwz
                  refine hK.out _ _ (fun _ => ⟨(blk11v hB.out).2, hMF.out⟩) ?_
                  clear hK K
                  try simp only [Act.put]
                  refine wpAnyT_one (i := 14) (by kernel_rfl) rfl (fun K hK => ?_)
                  go_simp
                  refine hK.out _ _ (fun _ => ⟨(blk11v hB.out).2, hMF.out⟩) ?_
                  clear hK K
                  try simp only [Act.put]
                  refine wpAnyT_done (by kernel_rfl) ?_ _
                  go_wp2_with fail
                  go_meet
                  exact ⟨g22, Ao, no, co, rfl, rfl, d9, d7, qz, hB, hY, hL9, hMF, hMG, hOwn, hKr⟩
              · skip
                -- refine wpAnyT_one (i := 12) (by kernel_rfl) rfl (fun K hK => ?_)
                go_simp
                obtain ⟨g22, hg22⟩ : ∃ g, wd.heap.size = g := ⟨_, rfl⟩
                have hYn : Hid (Blk (wd.alloc (.cells #[.int .i64 0, .int .i64 0, .int .i64 0, .int .i64 0, .int .i64 0, .slice none 0 0, .string ⟨#[]⟩, .slice none 0 0, .int .i64 0, .int .i64 0, .int .i64 0, .int .i64 0, .slice none 0 0, .slice none 0 0] 30)) g22 30 #[.int .i64 0, .int .i64 0, .int .i64 0, .int .i64 0, .int .i64 0, .slice none 0 0, .string ⟨#[]⟩, .slice none 0 0, .int .i64 0, .int .i64 0, .int .i64 0, .int .i64 0, .slice none 0 0, .slice none 0 0]) := by rw [← hg22]; exact Blk.new _ _ _
                have d9 : ¬ g22 = gB := by rw [← hg22]; exact Nat.ne_of_gt hB.out.lt
                replace hB := hid_mk (hB.out.alloc (.cells #[.int .i64 0, .int .i64 0, .int .i64 0, .int .i64 0, .int .i64 0, .slice none 0 0, .string ⟨#[]⟩, .slice none 0 0, .int .i64 0, .int .i64 0, .int .i64 0, .int .i64 0, .slice none 0 0, .slice none 0 0] 30))
                replace hMF := hid_mk (hMF.out.alloc (.cells #[.int .i64 0, .int .i64 0, .int .i64 0, .int .i64 0, .int .i64 0, .slice none 0 0, .string ⟨#[]⟩, .slice none 0 0, .int .i64 0, .int .i64 0, .int .i64 0, .int .i64 0, .slice none 0 0, .slice none 0 0] 30))
                replace hMG := hid_mk (hMG.out.alloc (.cells #[.int .i64 0, .int .i64 0, .int .i64 0, .int .i64 0, .int .i64 0, .slice none 0 0, .string ⟨#[]⟩, .slice none 0 0, .int .i64 0, .int .i64 0, .int .i64 0, .int .i64 0, .slice none 0 0, .slice none 0 0] 30))
                replace hOwn := hid_mk (hOwn.out.alloc (.cells #[.int .i64 0, .int .i64 0, .int .i64 0, .int .i64 0, .int .i64 0, .slice none 0 0, .string ⟨#[]⟩, .slice none 0 0, .int .i64 0, .int .i64 0, .int .i64 0, .int .i64 0, .slice none 0 0, .slice none 0 0] 30))
                replace hKr := hid_mk (hKr.out.trans (.alloc _ (.cells #[.int .i64 0, .int .i64 0, .int .i64 0, .int .i64 0, .int .i64 0, .slice none 0 0, .string ⟨#[]⟩, .slice none 0 0, .int .i64 0, .int .i64 0, .int .i64 0, .int .i64 0, .slice none 0 0, .slice none 0 0] 30)))
                have q8 : Below w.heap.size w (wd.alloc (.cells #[.int .i64 0, .int .i64 0, .int .i64 0, .int .i64 0, .int .i64 0, .slice none 0 0, .string ⟨#[]⟩, .slice none 0 0, .int .i64 0, .int .i64 0, .int .i64 0, .int .i64 0, .slice none 0 0, .slice none 0 0] 30)) := by go_grown
                have d7 : w.heap.size ≤ g22 := by rw [← hg22]; exact (show Below w.heap.size w wd by go_grown).size
                have hY := hYn
                clear hYn
                rw [hg22]
                replace hg22 := hid_mk hg22
                refine hK.out _ _ (fun _ => ⟨(blk11v hB.out).2, hMF.out⟩) ?_
                clear hK K
                try simp only [Act.put]
                refine wpAnyT_one (i := 6) (by kernel_rfl) rfl (fun K hK => ?_)
                go_simp
                refine (Later_any Nt at' m.term _ (B := w.heap.size) (hOkd.out.to (by go_grown)) (ht.to (by go_grown))).mono ?_
                rw [hN1.out, ha1.out]
                rintro e w4 ⟨rfl, hb1⟩
                have q4 := (after (w := w) hb1 (by go_grown)).1
                have z4 := q4.size
                have hd4 : Below wd.heap.size wd w4 := (after (w := wd) hb1 (by go_grown)).1
                have zd4 := hd4.size
                replace hB := hid_mk (hB.out.keep hb1)
                replace hMF := hid_mk (hMF.out.to hb1)
                replace hMG := hid_mk (hMG.out.to hb1)
                replace hOwn := hid_mk (own_keep hOwn.out hb1)
                replace hKr := hid_mk (hKr.out.trans (KR.below hb1))
                replace hY := hid_mk (hY.out.keep hb1)
                clear hb1
                unfold nodeV
                refine hK.out _ _ (fun _ => ⟨(blk11v hB.out).2, hMF.out⟩) ?_
                clear hK K
                try simp only [Act.put]
                refine wpAnyT_one (i := 8) (by kernel_rfl) rfl (fun K hK => ?_)
                go_simp
                refine (Vote_any N1 a1 m nilMA 10 _ (B := w.heap.size) (hOk1.out.to (by go_grown)) (hMo.out.to (by go_grown)) (ht.to (by go_grown))).mono ?_
                rw [hN2.out, hL.out]
                rintro e w5 ⟨⟨Ao, no, co, rfl, hL9, hc9⟩, hb1⟩
                have q5 := (after (w := w) hb1 (by go_grown)).1
                have z5 := q5.size
                replace hL9 := hid_mk hL9
                replace hB := hid_mk (hB.out.keep hb1)
                replace hMF := hid_mk (hMF.out.to hb1)
                replace hMG := hid_mk (hMG.out.to hb1)
                replace hOwn := hid_mk (own_keep hOwn.out hb1)
                replace hKr := hid_mk (hKr.out.trans (KR.below hb1))
                replace hY := hid_mk (hY.out.keep hb1)
                clear hb1
                unfold nodeV
                refine hK.out _ _ (fun _ => ⟨(blk11v hB.out).2, hMF.out⟩) ?_
                clear hK K
                try simp only [Act.put]
                refine wpAnyT_take (i := 9) rfl (by kernel_rfl) (by kernel_rfl) (by kernel_rfl) rfl (by kernel_rfl) (fun _ _ _ h => h) (by kernel_rfl) (fun w' hS => (by obtain ⟨⟨s0, s1, s2, s3, s4, s5, s6, s7, s8, s9, s10⟩, hSm⟩ := hS; go_simp; try with_reducible rfl)) ⟨(blk11v hB.out).2, hMF.out⟩ ?_
                simp only [Act.put]
                refine wpAnyT_take (i := 10) rfl (by kernel_rfl) (by kernel_rfl) (by kernel_rfl) rfl (by kernel_rfl) (fun _ _ _ h => h) (by kernel_rfl) (fun w' hS => (by obtain ⟨⟨s0, s1, s2, s3, s4, s5, s6, s7, s8, s9, s10⟩, hSm⟩ := hS; go_simp; try with_reducible rfl)) ⟨(blk11v hB.out).2, hMF.out⟩ ?_
                simp only [Act.put]
                refine wpAnyT_take (i := 11) rfl (by kernel_rfl) (by kernel_rfl) (by kernel_rfl) rfl (by kernel_rfl) (fun _ _ _ h => h) (by kernel_rfl) (fun w' hS => (by obtain ⟨⟨s0, s1, s2, s3, s4, s5, s6, s7, s8, s9, s10⟩, hSm⟩ := hS; go_simp; try with_reducible rfl)) ⟨(blk11v hB.out).2, hMF.out⟩ ?_
                simp only [Act.put]
                obtain ⟨yl, y0, y1, y2, y3, y4, y5, y6, y7, y8, y9, y10, y11, y12, y13, yf0, yf1, yf2, yf3, yf4, yf5, yf6, yf7, yf8, yf9, yf10, yf11, yf12, yf13⟩ := blk14f hY.out
                refine wpAnyT_one (i := 13) (by kernel_rfl) rfl (fun K hK => ?_)
                go_simp
                clear yl y0 y1 y2 y3 y4 y5 y6 y7 y8 y9 y10 y11 y12 y13 yf0 yf1 yf2 yf3 yf4 yf5 yf6 yf7 yf8 yf9 yf10 yf11 yf12 yf13
                replace hB := hid_mk (set14_farS hB.out (fun e => d9 e.symm) (.int .i64 N2.id) (.int .i64 N2.h.t) (.int .i64 N2.h.v) (.int .i64 N2.h.l.base) (.int .i64 N2.h.l.bt) (.slice a1.R.A a1.R.n a1.R.c) (.string N2.h.s) (.slice a1.V.A a1.V.n a1.V.c) (.int .i64 N2.role) (.int .i64 N2.lead) (.int .i64 N2.timer) (.int .i64 N2.commit) (.slice a1.G.A a1.G.n a1.G.c) (.slice a1.P.A a1.P.n a1.P.c))
                replace hMF := hid_mk (map_set14K hMF.out (hMF.out.ne_blk hY.out) (.int .i64 N2.id) (.int .i64 N2.h.t) (.int .i64 N2.h.v) (.int .i64 N2.h.l.base) (.int .i64 N2.h.l.bt) (.slice a1.R.A a1.R.n a1.R.c) (.string N2.h.s) (.slice a1.V.A a1.V.n a1.V.c) (.int .i64 N2.role) (.int .i64 N2.lead) (.int .i64 N2.timer) (.int .i64 N2.commit) (.slice a1.G.A a1.G.n a1.G.c) (.slice a1.P.A a1.P.n a1.P.c))
                replace hMG := hid_mk (map_set14K hMG.out (hMG.out.ne_blk hY.out) (.int .i64 N2.id) (.int .i64 N2.h.t) (.int .i64 N2.h.v) (.int .i64 N2.h.l.base) (.int .i64 N2.h.l.bt) (.slice a1.R.A a1.R.n a1.R.c) (.string N2.h.s) (.slice a1.V.A a1.V.n a1.V.c) (.int .i64 N2.role) (.int .i64 N2.lead) (.int .i64 N2.timer) (.int .i64 N2.commit) (.slice a1.G.A a1.G.n a1.G.c) (.slice a1.P.A a1.P.n a1.P.c))
                replace hOwn := hid_mk (own14 hOwn.out hY.out (by decide) (.int .i64 N2.id) (.int .i64 N2.h.t) (.int .i64 N2.h.v) (.int .i64 N2.h.l.base) (.int .i64 N2.h.l.bt) (.slice a1.R.A a1.R.n a1.R.c) (.string N2.h.s) (.slice a1.V.A a1.V.n a1.V.c) (.int .i64 N2.role) (.int .i64 N2.lead) (.int .i64 N2.timer) (.int .i64 N2.commit) (.slice a1.G.A a1.G.n a1.G.c) (.slice a1.P.A a1.P.n a1.P.c))
                replace hKr := hid_mk (hKr.out.trans (KR.st14 hY.out d7 (.int .i64 N2.id) (.int .i64 N2.h.t) (.int .i64 N2.h.v) (.int .i64 N2.h.l.base) (.int .i64 N2.h.l.bt) (.slice a1.R.A a1.R.n a1.R.c) (.string N2.h.s) (.slice a1.V.A a1.V.n a1.V.c) (.int .i64 N2.role) (.int .i64 N2.lead) (.int .i64 N2.timer) (.int .i64 N2.commit) (.slice a1.G.A a1.G.n a1.G.c) (.slice a1.P.A a1.P.n a1.P.c)))
                replace hL9 := hid_mk (mgs_set14K hL9.out hY.out (by decide) hLs.out (.int .i64 N2.id) (.int .i64 N2.h.t) (.int .i64 N2.h.v) (.int .i64 N2.h.l.base) (.int .i64 N2.h.l.bt) (.slice a1.R.A a1.R.n a1.R.c) (.string N2.h.s) (.slice a1.V.A a1.V.n a1.V.c) (.int .i64 N2.role) (.int .i64 N2.lead) (.int .i64 N2.timer) (.int .i64 N2.commit) (.slice a1.G.A a1.G.n a1.G.c) (.slice a1.P.A a1.P.n a1.P.c))
                have qz := set14_below (.int .i64 N2.id) (.int .i64 N2.h.t) (.int .i64 N2.h.v) (.int .i64 N2.h.l.base) (.int .i64 N2.h.l.bt) (.slice a1.R.A a1.R.n a1.R.c) (.string N2.h.s) (.slice a1.V.A a1.V.n a1.V.c) (.int .i64 N2.role) (.int .i64 N2.lead) (.int .i64 N2.timer) (.int .i64 N2.commit) (.slice a1.G.A a1.G.n a1.G.c) (.slice a1.P.A a1.P.n a1.P.c) q5 d7
                replace hY := hid_mk (set14_blk hY.out (.int .i64 N2.id) (.int .i64 N2.h.t) (.int .i64 N2.h.v) (.int .i64 N2.h.l.base) (.int .i64 N2.h.l.bt) (.slice a1.R.A a1.R.n a1.R.c) (.string N2.h.s) (.slice a1.V.A a1.V.n a1.V.c) (.int .i64 N2.role) (.int .i64 N2.lead) (.int .i64 N2.timer) (.int .i64 N2.commit) (.slice a1.G.A a1.G.n a1.G.c) (.slice a1.P.A a1.P.n a1.P.c))
                obtain ⟨wz, hwz⟩ : ∃ wz, set14 w5 g22 (.int .i64 N2.id) (.int .i64 N2.h.t) (.int .i64 N2.h.v) (.int .i64 N2.h.l.base) (.int .i64 N2.h.l.bt) (.slice a1.R.A a1.R.n a1.R.c) (.string N2.h.s) (.slice a1.V.A a1.V.n a1.V.c) (.int .i64 N2.role) (.int .i64 N2.lead) (.int .i64 N2.timer) (.int .i64 N2.commit) (.slice a1.G.A a1.G.n a1.G.c) (.slice a1.P.A a1.P.n a1.P.c) = wz := ⟨_, rfl⟩
                rw [hwz] at hB hMF hMG hOwn hKr hY qz hL9
                unfold set14 at hwz
                rw [hwz]
                clear hwz
                refine hK.out _ _ (fun _ => ⟨(blk11v hB.out).2, hMF.out⟩) ?_
                clear hK K
                try simp only [Act.put]
                refine wpAnyT_one (i := 14) (by kernel_rfl) rfl (fun K hK => ?_)
                go_simp
                refine hK.out _ _ (fun _ => ⟨(blk11v hB.out).2, hMF.out⟩) ?_
                clear hK K
                try simp only [Act.put]
                refine wpAnyT_done (by kernel_rfl) ?_ _
                go_wp2_with fail
                go_meet
                exact ⟨g22, Ao, no, co, rfl, rfl, d9, d7, qz, hB, hY, hL9, hMF, hMG, hOwn, hKr⟩
            case rest =>
              clear hB hMF hMG hOwn hKr q27
              obtain ⟨g22, Ao, no, co, rfl, rfl, d9, d7, q9, hB, hY, hL9, hMF, hMG, hOwn, hKr⟩ := hcut
              have z9 := q9.size
              have hOk2 : Hid (NdOk wc w.heap.size N2 a1) := by
                rw [← hN2.out, ← hN1.out, ← ha1.out]
                exact voteOk (laterOk (hOkt.out.kr hKr.out) m.term) m 10
              have hno : 1 = no := by
                have := hL9.out.len
                rw [List.length_map, hLe.out] at this
                exact this
              subst hno
              obtain ⟨F1, hF1⟩ : ∃ z, updI F m.to (.agg #[.int .i64 N2.id, .int .i64 N2.h.t, .int .i64 N2.h.v, .int .i64 N2.h.l.base, .int .i64 N2.h.l.bt, .slice a1.R.A a1.R.n a1.R.c, .string N2.h.s, .slice a1.V.A a1.V.n a1.V.c, .int .i64 N2.role, .int .i64 N2.lead, .int .i64 N2.timer, .int .i64 N2.commit, .slice a1.G.A a1.G.n a1.G.c, .slice a1.P.A a1.P.n a1.P.c]) = z := ⟨_, rfl⟩
              obtain ⟨yl, y0, y1, y2, y3, y4, y5, y6, y7, y8, y9, y10, y11, y12, y13⟩ := blk14c hY.out
              obtain ⟨ml, b0, b1, b2, b3, b4, b5, b6, b7, b8, b9, b10⟩ := blk11v hB.out
              go_wp2_with (at_mapUpdate; refine mapI_update rfl _ _ _ 51 rfl 3 30 Tryd.underlying3 Tryd.underlying51 gm _ F rfl hMF.out (by unfold maxLen; omega) _ rfl hwt (.agg #[.int .i64 N2.id, .int .i64 N2.h.t, .int .i64 N2.h.v, .int .i64 N2.h.l.base, .int .i64 N2.h.l.bt, .slice a1.R.A a1.R.n a1.R.c, .string N2.h.s, .slice a1.V.A a1.V.n a1.V.c, .int .i64 N2.role, .int .i64 N2.lead, .int .i64 N2.timer, .int .i64 N2.commit, .slice a1.G.A a1.G.n a1.G.c, .slice a1.P.A a1.P.n a1.P.c]) rfl ?_; intro w6 hM6 hg6; have q9' : Below w.heap.size w w6 := grown_below q9 hg6 (fun k hk => by cases hk; exact hgw); replace hB := hid_mk (grown_neK hMF.out hg6 hB.out); replace hOwn := hid_mk (own_map hMF.out hg6 hOwn.out); replace hMG := hid_mk (hMG.out.grown hg6 hgne2); replace hKr := hid_mk (hKr.out.trans (KR.map hMF.out hgw hg6)); replace hL9 := hid_mk (mgs_map hMF.out hg6 hL9.out hLs.out); replace hOk2 := hid_mk (hOk2.out.kr (KR.map hMF.out hgw hg6)); replace hMF := hid_mk hM6; clear hg6 hM6 ml b0 b1 b2 b3 b4 b5 b6 b7 b8 b9 b10; obtain ⟨ml, b0, b1, b2, b3, b4, b5, b6, b7, b8, b9, b10⟩ := blk11v hB.out; rw [hF1] at hMF; clear yl y0 y1 y2 y3 y4 y5 y6 y7 y8 y9 y10 y11 y12 y13)
              have hFf1 : Hid (F1 m.fr = some (nodeV Nf af)) := by
                rw [← hF1]
                unfold updI
                rw [Hid, if_neg (Ne.symm hne.out)]
                exact hFf.out
              replace hF1 := hid_mk hF1
              rw [hLe.out] at hL9 hLs
              obtain ⟨bl, ol, p9, hAo, _⟩ := hL9.out.at_ (show 0 < 1 by omega)
              subst hAo
              have z6 := q9'.size
              go_upto_region 32 with fail
              clear ml b0 b1 b2 b3 b4 b5 b6 b7 b8 b9 b10
              go_cut [24, 25] from 173 to 198 (fun p24 p25 wx => ∃ (g24 : Nat) (a4 : NdA), p24 = .pointer (some ⟨g24, 0, none⟩) ∧ p25 = .bool wn ∧ w.heap.size ≤ g24 ∧ Below w.heap.size w wx ∧ Hid (Blk wx gB 32 #[.int .i64 m.kind, .int .i64 m.fr, .int .i64 m.to, .int .i64 m.term, .bool m.ok, .int .i64 m.index, .int .i64 m.lterm, .slice none 0 0, .int .i64 m.commit, .string m.s, .slice none 0 0]) ∧ Hid (Blk wx g24 30 #[.int .i64 C.id, .int .i64 C.h.t, .int .i64 C.h.v, .int .i64 C.h.l.base, .int .i64 C.h.l.bt, .slice a4.R.A a4.R.n a4.R.c, .string C.h.s, .slice a4.V.A a4.V.n a4.V.c, .int .i64 C.role, .int .i64 C.lead, .int .i64 C.timer, .int .i64 C.commit, .slice a4.G.A a4.G.n a4.G.c, .slice a4.P.A a4.P.n a4.P.c]) ∧ Hid (MapI Tryd.prog wx 3 gm (b + 1) F1) ∧ Hid (MapI Tryd.prog wx 3 gw b G) ∧ Hid (wx.ownsRow w.heap.size 32 11 (.slice (some ⟨ga, 0, none⟩) n9 c9) n9 (mgsL (pairM ms'))) ∧ Hid (KR wo wx w.heap.size) ∧ Hid (NdOk wx w.heap.size N2 a1) ∧ Hid (NdOk wx w.heap.size C a4))
              case first =>
                refine wp_region_T' (fun w' => (w'.cell? ⟨gB, 0, none⟩ = some (.int .i64 m.kind) ∧ w'.cell? ⟨gB, 1, none⟩ = some (.int .i64 m.fr) ∧ w'.cell? ⟨gB, 2, none⟩ = some (.int .i64 m.to) ∧ w'.cell? ⟨gB, 3, none⟩ = some (.int .i64 m.term) ∧ w'.cell? ⟨gB, 4, none⟩ = some (.bool m.ok) ∧ w'.cell? ⟨gB, 5, none⟩ = some (.int .i64 m.index) ∧ w'.cell? ⟨gB, 6, none⟩ = some (.int .i64 m.lterm) ∧ w'.cell? ⟨gB, 7, none⟩ = some (.slice none 0 0) ∧ w'.cell? ⟨gB, 8, none⟩ = some (.int .i64 m.commit) ∧ w'.cell? ⟨gB, 9, none⟩ = some (.string m.s) ∧ w'.cell? ⟨gB, 10, none⟩ = some (.slice none 0 0)) ∧ MapI Tryd.prog w' 3 gm (b + 1) F1 ∧ (w'.cell? ⟨bl, ol, none⟩ = some (.int .i64 2) ∧ w'.cell? ⟨bl, ol + 1, none⟩ = some (.int .i64 N1.id) ∧ w'.cell? ⟨bl, ol + 2, none⟩ = some (.int .i64 m.fr) ∧ w'.cell? ⟨bl, ol + 3, none⟩ = some (.int .i64 N1.h.t) ∧ w'.cell? ⟨bl, ol + 4, none⟩ = some (.bool gv) ∧ w'.cell? ⟨bl, ol + 5, none⟩ = some (.int .i64 0) ∧ w'.cell? ⟨bl, ol + 6, none⟩ = some (.int .i64 0) ∧ w'.cell? ⟨bl, ol + 7, none⟩ = some (.slice none 0 0) ∧ w'.cell? ⟨bl, ol + 8, none⟩ = some (.int .i64 0) ∧ w'.cell? ⟨bl, ol + 9, none⟩ = some (.string ⟨#[]⟩) ∧ w'.cell? ⟨bl, ol + 10, none⟩ = some (.slice none 0 0))) (fun j => decide (j < 14)) 14 (by kernel_rfl) (by kernel_rfl) (by exact ⟨(blk11v hB.out).2, hMF.out, mgs_head hL9.out⟩) (fun hS0 => ?_)
                replace hL9 : Hid (Mgs w6.drew 0 (some ⟨bl, ol, none⟩) 1 ([(⟨2, N1.id, m.fr, N1.h.t, gv, 0, 0, [], 0, ⟨#[]⟩, []⟩ : Ms)].map fun M => (M, nilMA))) := hL9.out.to (by go_grown)
                replace hOk2 : Hid (NdOk w6.drew w.heap.size N2 a1) := hOk2.out.to (by go_grown)
                replace hB := hid_mk hB.out.drew
                replace hMF := hid_mk hMF.out.drew
                replace hMG := hid_mk hMG.out.drew
                replace hOwn := hid_mk hOwn.out.drew
                replace hKr : Hid (KR wo w6.drew w.heap.size) := hKr.out.trans ⟨Nat.le_refl _, fun _ _ h _ => h⟩
                have q9'd : Below w.heap.size w w6.drew := by go_grown
                obtain ⟨wd, hwd⟩ : ∃ x, w6.drew = x := ⟨_, rfl⟩
                rw [hwd] at hS0 hB hMF hMG hOwn hKr q9'd hL9 hOk2 ⊢
                clear hwd
                clear q9'
                have zq9'd := q9'd.size
                have hOkfd : Hid (NdOk wd w.heap.size Nf af) := hOkf.out.kr hKr.out
                refine wpAnyT_take (i := 0) rfl (by kernel_rfl) (by kernel_rfl) (by kernel_rfl) rfl (by kernel_rfl) (fun _ _ _ h => h) (by kernel_rfl) (fun w' hS => (by obtain ⟨⟨s0, s1, s2, s3, s4, s5, s6, s7, s8, s9, s10⟩, hSm, ⟨r0, r1, r2, r3, r4, r5, r6, r7, r8, r9, r10⟩⟩ := hS; go_simp; try with_reducible rfl)) hS0 ?_
                simp only [Act.put]
                refine wpAnyT_take (i := 1) rfl (by kernel_rfl) (by kernel_rfl) (by kernel_rfl) rfl (by kernel_rfl) (fun _ _ _ h => h) (by kernel_rfl) (fun w' hS => (by obtain ⟨⟨s0, s1, s2, s3, s4, s5, s6, s7, s8, s9, s10⟩, hSm, ⟨r0, r1, r2, r3, r4, r5, r6, r7, r8, r9, r10⟩⟩ := hS; go_simp; try with_reducible rfl)) hS0 ?_
                simp only [Act.put]
                refine wpAnyT_take (i := 2) rfl (by kernel_rfl) (by kernel_rfl) (by kernel_rfl) rfl (by kernel_rfl) (fun _ _ _ h => h) (by kernel_rfl) (fun w' hS => (by obtain ⟨⟨s0, s1, s2, s3, s4, s5, s6, s7, s8, s9, s10⟩, hSm, ⟨r0, r1, r2, r3, r4, r5, r6, r7, r8, r9, r10⟩⟩ := hS; go_simp; try with_reducible rfl)) hS0 ?_
                simp only [Act.put]
                refine wpAnyT_take (i := 3) rfl (by kernel_rfl) (by kernel_rfl) (by kernel_rfl) rfl (by kernel_rfl) (fun _ _ _ h => h) (by kernel_rfl) (fun w' hS => (by obtain ⟨_, hSm, _⟩ := hS; exact mapI_run _ _ 51 rfl Tryd.underlying3 Tryd.underlying51 (zeroNd _) rfl hSm m.fr rfl hwr (.agg #[.int .i64 Nf.id, .int .i64 Nf.h.t, .int .i64 Nf.h.v, .int .i64 Nf.h.l.base, .int .i64 Nf.h.l.bt, .slice af.R.A af.R.n af.R.c, .string Nf.h.s, .slice af.V.A af.V.n af.V.c, .int .i64 Nf.role, .int .i64 Nf.lead, .int .i64 Nf.timer, .int .i64 Nf.commit, .slice af.G.A af.G.n af.G.c, .slice af.P.A af.P.n af.P.c]) (by rw [hFf1.out]; rfl))) hS0 ?_
                simp only [Act.put]
                refine wpAnyT_take (i := 4) rfl (by kernel_rfl) (by kernel_rfl) (by kernel_rfl) rfl (by kernel_rfl) (fun _ _ _ h => h) (by kernel_rfl) (fun w' hS => (by obtain ⟨⟨s0, s1, s2, s3, s4, s5, s6, s7, s8, s9, s10⟩, hSm, ⟨r0, r1, r2, r3, r4, r5, r6, r7, r8, r9, r10⟩⟩ := hS; go_simp; try with_reducible rfl)) hS0 ?_
                simp only [Act.put]
                refine wpAnyT_take (i := 5) rfl (by kernel_rfl) (by kernel_rfl) (by kernel_rfl) rfl (by kernel_rfl) (fun _ _ _ h => h) (by kernel_rfl) (fun w' hS => (by obtain ⟨⟨s0, s1, s2, s3, s4, s5, s6, s7, s8, s9, s10⟩, hSm, ⟨r0, r1, r2, r3, r4, r5, r6, r7, r8, r9, r10⟩⟩ := hS; go_simp; try with_reducible rfl)) hS0 ?_
                simp only [Act.put]
                refine wpAnyT_take (i := 6) rfl (by kernel_rfl) (by kernel_rfl) (by kernel_rfl) rfl (by kernel_rfl) (fun _ _ _ h => h) (by kernel_rfl) (fun w' hS => (by obtain ⟨⟨s0, s1, s2, s3, s4, s5, s6, s7, s8, s9, s10⟩, hSm, ⟨r0, r1, r2, r3, r4, r5, r6, r7, r8, r9, r10⟩⟩ := hS; go_simp; try with_reducible rfl)) hS0 ?_
                simp only [Act.put]
                refine wpAnyT_two (i := 7) (j := 11) (by kernel_rfl) rfl rfl (fun K hK => ?_) (fun K hK => ?_)
                · skip
                  -- refine wpAnyT_one (i := 7) (by kernel_rfl) rfl (fun K hK => ?_)
                  go_simp
                  refine (Count_any Nf af ⟨2, N1.id, m.fr, N1.h.t, gv, 0, 0, [], 0, ⟨#[]⟩, []⟩ nilMA _ (B := w.heap.size) (by first | exact zq9'd | (simp only [World.size_alloc]; omega)) (hOkfd.out.to (by go_grown)) (nilMA_ok rfl rfl rfl) (ht.to (by go_grown)) mm (hm2.out _ (by go_grown))).mono ?_
                  rw [hC.out, hwn'.out]
                  rintro e w7 ⟨⟨a4, rfl, hok4⟩, hb1⟩
                  have q7 := (after (w := w) hb1 (by go_grown)).1
                  have z7 := q7.size
                  replace hok4 := hid_mk hok4
                  replace hOk2 := hid_mk (hOk2.out.to (after hb1 (by go_grown)).1)
                  replace hB := hid_mk (hB.out.keep hb1)
                  replace hMF := hid_mk (hMF.out.to hb1)
                  replace hMG := hid_mk (hMG.out.to hb1)
                  replace hOwn := hid_mk (own_keep hOwn.out hb1)
                  replace hKr := hid_mk (hKr.out.trans (KR.below hb1))
                  replace hL9 := hid_mk (hL9.out.to hb1)
                  clear hb1
                  unfold nodeV
                  refine hK.out _ _ (fun _ => ⟨(blk11v hB.out).2, hMF.out, mgs_head hL9.out⟩) ?_
                  clear hK K
                  try simp only [Act.put]
                  refine wpAnyT_take (i := 8) rfl (by kernel_rfl) (by kernel_rfl) (by kernel_rfl) rfl (by kernel_rfl) (fun _ _ _ h => h) (by kernel_rfl) (fun w' hS => (by obtain ⟨⟨s0, s1, s2, s3, s4, s5, s6, s7, s8, s9, s10⟩, hSm, ⟨r0, r1, r2, r3, r4, r5, r6, r7, r8, r9, r10⟩⟩ := hS; go_simp; try with_reducible rfl)) ⟨(blk11v hB.out).2, hMF.out, mgs_head hL9.out⟩ ?_
                  simp only [Act.put]
                  refine wpAnyT_take (i := 9) rfl (by kernel_rfl) (by kernel_rfl) (by kernel_rfl) rfl (by kernel_rfl) (fun _ _ _ h => h) (by kernel_rfl) (fun w' hS => (by obtain ⟨⟨s0, s1, s2, s3, s4, s5, s6, s7, s8, s9, s10⟩, hSm, ⟨r0, r1, r2, r3, r4, r5, r6, r7, r8, r9, r10⟩⟩ := hS; go_simp; try with_reducible rfl)) ⟨(blk11v hB.out).2, hMF.out, mgs_head hL9.out⟩ ?_
                  simp only [Act.put]
                  refine wpAnyT_take (i := 10) rfl (by kernel_rfl) (by kernel_rfl) (by kernel_rfl) rfl (by kernel_rfl) (fun _ _ _ h => h) (by kernel_rfl) (fun w' hS => (by obtain ⟨⟨s0, s1, s2, s3, s4, s5, s6, s7, s8, s9, s10⟩, hSm, ⟨r0, r1, r2, r3, r4, r5, r6, r7, r8, r9, r10⟩⟩ := hS; go_simp; try with_reducible rfl)) ⟨(blk11v hB.out).2, hMF.out, mgs_head hL9.out⟩ ?_
                  simp only [Act.put]
                  refine wpAnyT_one (i := 11) (by kernel_rfl) rfl (fun K hK => ?_)
                  go_simp
                  obtain ⟨g24, hg24⟩ : ∃ g, w7.heap.size = g := ⟨_, rfl⟩
                  have hYn : Hid (Blk (w7.alloc (.cells #[.int .i64 0, .int .i64 0, .int .i64 0, .int .i64 0, .int .i64 0, .slice none 0 0, .string ⟨#[]⟩, .slice none 0 0, .int .i64 0, .int .i64 0, .int .i64 0, .int .i64 0, .slice none 0 0, .slice none 0 0] 30)) g24 30 #[.int .i64 0, .int .i64 0, .int .i64 0, .int .i64 0, .int .i64 0, .slice none 0 0, .string ⟨#[]⟩, .slice none 0 0, .int .i64 0, .int .i64 0, .int .i64 0, .int .i64 0, .slice none 0 0, .slice none 0 0]) := by rw [← hg24]; exact Blk.new _ _ _
                  have d24 : ¬ g24 = gB := by rw [← hg24]; exact Nat.ne_of_gt hB.out.lt
                  replace hB := hid_mk (hB.out.alloc (.cells #[.int .i64 0, .int .i64 0, .int .i64 0, .int .i64 0, .int .i64 0, .slice none 0 0, .string ⟨#[]⟩, .slice none 0 0, .int .i64 0, .int .i64 0, .int .i64 0, .int .i64 0, .slice none 0 0, .slice none 0 0] 30))
                  replace hMF := hid_mk (hMF.out.alloc (.cells #[.int .i64 0, .int .i64 0, .int .i64 0, .int .i64 0, .int .i64 0, .slice none 0 0, .string ⟨#[]⟩, .slice none 0 0, .int .i64 0, .int .i64 0, .int .i64 0, .int .i64 0, .slice none 0 0, .slice none 0 0] 30))
                  replace hMG := hid_mk (hMG.out.alloc (.cells #[.int .i64 0, .int .i64 0, .int .i64 0, .int .i64 0, .int .i64 0, .slice none 0 0, .string ⟨#[]⟩, .slice none 0 0, .int .i64 0, .int .i64 0, .int .i64 0, .int .i64 0, .slice none 0 0, .slice none 0 0] 30))
                  replace hOwn := hid_mk (hOwn.out.alloc (.cells #[.int .i64 0, .int .i64 0, .int .i64 0, .int .i64 0, .int .i64 0, .slice none 0 0, .string ⟨#[]⟩, .slice none 0 0, .int .i64 0, .int .i64 0, .int .i64 0, .int .i64 0, .slice none 0 0, .slice none 0 0] 30))
                  replace hKr := hid_mk (hKr.out.trans (.alloc _ (.cells #[.int .i64 0, .int .i64 0, .int .i64 0, .int .i64 0, .int .i64 0, .slice none 0 0, .string ⟨#[]⟩, .slice none 0 0, .int .i64 0, .int .i64 0, .int .i64 0, .int .i64 0, .slice none 0 0, .slice none 0 0] 30)))
                  replace hL9 := hid_mk (hL9.out.to ((Below.refl _ w7).alloc (Nat.le_refl _) (.cells #[.int .i64 0, .int .i64 0, .int .i64 0, .int .i64 0, .int .i64 0, .slice none 0 0, .string ⟨#[]⟩, .slice none 0 0, .int .i64 0, .int .i64 0, .int .i64 0, .int .i64 0, .slice none 0 0, .slice none 0 0] 30)))
                  have q8 : Below w.heap.size w (w7.alloc (.cells #[.int .i64 0, .int .i64 0, .int .i64 0, .int .i64 0, .int .i64 0, .slice none 0 0, .string ⟨#[]⟩, .slice none 0 0, .int .i64 0, .int .i64 0, .int .i64 0, .int .i64 0, .slice none 0 0, .slice none 0 0] 30)) := by go_grown
                  have d7 : w.heap.size ≤ g24 := by rw [← hg24]; exact (show Below w.heap.size w w7 by go_grown).size
                  replace hOk2 := hid_mk (hOk2.out.to ((Below.refl _ w7).alloc (Nat.le_refl _) (.cells #[.int .i64 0, .int .i64 0, .int .i64 0, .int .i64 0, .int .i64 0, .slice none 0 0, .string ⟨#[]⟩, .slice none 0 0, .int .i64 0, .int .i64 0, .int .i64 0, .int .i64 0, .slice none 0 0, .slice none 0 0] 30)))
                  replace hok4 := hid_mk (hok4.out.to ((Below.refl _ w7).alloc (Nat.le_refl _) (.cells #[.int .i64 0, .int .i64 0, .int .i64 0, .int .i64 0, .int .i64 0, .slice none 0 0, .string ⟨#[]⟩, .slice none 0 0, .int .i64 0, .int .i64 0, .int .i64 0, .int .i64 0, .slice none 0 0, .slice none 0 0] 30)))
                  have hY := hYn
                  clear hYn
                  rw [hg24]
                  replace hg24 := hid_mk hg24
                  refine hK.out _ _ (fun _ => ⟨(blk11v hB.out).2, hMF.out, mgs_head hL9.out⟩) ?_
                  clear hK K
                  try simp only [Act.put]
                  obtain ⟨yl, y0, y1, y2, y3, y4, y5, y6, y7, y8, y9, y10, y11, y12, y13, yf0, yf1, yf2, yf3, yf4, yf5, yf6, yf7, yf8, yf9, yf10, yf11, yf12, yf13⟩ := blk14f hY.out
                  refine wpAnyT_one (i := 12) (by kernel_rfl) rfl (fun K hK => ?_)
                  go_simp
                  clear yl y0 y1 y2 y3 y4 y5 y6 y7 y8 y9 y10 y11 y12 y13 yf0 yf1 yf2 yf3 yf4 yf5 yf6 yf7 yf8 yf9 yf10 yf11 yf12 yf13
                  replace hOk2 := hid_mk (hOk2.out.kr (KR.st14 hY.out d7 (.int .i64 C.id) (.int .i64 C.h.t) (.int .i64 C.h.v) (.int .i64 C.h.l.base) (.int .i64 C.h.l.bt) (.slice a4.R.A a4.R.n a4.R.c) (.string C.h.s) (.slice a4.V.A a4.V.n a4.V.c) (.int .i64 C.role) (.int .i64 C.lead) (.int .i64 C.timer) (.int .i64 C.commit) (.slice a4.G.A a4.G.n a4.G.c) (.slice a4.P.A a4.P.n a4.P.c)))
                  replace hok4 := hid_mk (hok4.out.kr (KR.st14 hY.out d7 (.int .i64 C.id) (.int .i64 C.h.t) (.int .i64 C.h.v) (.int .i64 C.h.l.base) (.int .i64 C.h.l.bt) (.slice a4.R.A a4.R.n a4.R.c) (.string C.h.s) (.slice a4.V.A a4.V.n a4.V.c) (.int .i64 C.role) (.int .i64 C.lead) (.int .i64 C.timer) (.int .i64 C.commit) (.slice a4.G.A a4.G.n a4.G.c) (.slice a4.P.A a4.P.n a4.P.c)))
                  replace hB := hid_mk (set14_farS hB.out (fun e => d24 e.symm) (.int .i64 C.id) (.int .i64 C.h.t) (.int .i64 C.h.v) (.int .i64 C.h.l.base) (.int .i64 C.h.l.bt) (.slice a4.R.A a4.R.n a4.R.c) (.string C.h.s) (.slice a4.V.A a4.V.n a4.V.c) (.int .i64 C.role) (.int .i64 C.lead) (.int .i64 C.timer) (.int .i64 C.commit) (.slice a4.G.A a4.G.n a4.G.c) (.slice a4.P.A a4.P.n a4.P.c))
                  replace hMF := hid_mk (map_set14K hMF.out (hMF.out.ne_blk hY.out) (.int .i64 C.id) (.int .i64 C.h.t) (.int .i64 C.h.v) (.int .i64 C.h.l.base) (.int .i64 C.h.l.bt) (.slice a4.R.A a4.R.n a4.R.c) (.string C.h.s) (.slice a4.V.A a4.V.n a4.V.c) (.int .i64 C.role) (.int .i64 C.lead) (.int .i64 C.timer) (.int .i64 C.commit) (.slice a4.G.A a4.G.n a4.G.c) (.slice a4.P.A a4.P.n a4.P.c))
                  replace hMG := hid_mk (map_set14K hMG.out (hMG.out.ne_blk hY.out) (.int .i64 C.id) (.int .i64 C.h.t) (.int .i64 C.h.v) (.int .i64 C.h.l.base) (.int .i64 C.h.l.bt) (.slice a4.R.A a4.R.n a4.R.c) (.string C.h.s) (.slice a4.V.A a4.V.n a4.V.c) (.int .i64 C.role) (.int .i64 C.lead) (.int .i64 C.timer) (.int .i64 C.commit) (.slice a4.G.A a4.G.n a4.G.c) (.slice a4.P.A a4.P.n a4.P.c))
                  replace hOwn := hid_mk (own14 hOwn.out hY.out (by decide) (.int .i64 C.id) (.int .i64 C.h.t) (.int .i64 C.h.v) (.int .i64 C.h.l.base) (.int .i64 C.h.l.bt) (.slice a4.R.A a4.R.n a4.R.c) (.string C.h.s) (.slice a4.V.A a4.V.n a4.V.c) (.int .i64 C.role) (.int .i64 C.lead) (.int .i64 C.timer) (.int .i64 C.commit) (.slice a4.G.A a4.G.n a4.G.c) (.slice a4.P.A a4.P.n a4.P.c))
                  replace hKr := hid_mk (hKr.out.trans (KR.st14 hY.out d7 (.int .i64 C.id) (.int .i64 C.h.t) (.int .i64 C.h.v) (.int .i64 C.h.l.base) (.int .i64 C.h.l.bt) (.slice a4.R.A a4.R.n a4.R.c) (.string C.h.s) (.slice a4.V.A a4.V.n a4.V.c) (.int .i64 C.role) (.int .i64 C.lead) (.int .i64 C.timer) (.int .i64 C.commit) (.slice a4.G.A a4.G.n a4.G.c) (.slice a4.P.A a4.P.n a4.P.c)))
                  replace hL9 := hid_mk (mgs_set14K hL9.out hY.out (by decide) hLs.out (.int .i64 C.id) (.int .i64 C.h.t) (.int .i64 C.h.v) (.int .i64 C.h.l.base) (.int .i64 C.h.l.bt) (.slice a4.R.A a4.R.n a4.R.c) (.string C.h.s) (.slice a4.V.A a4.V.n a4.V.c) (.int .i64 C.role) (.int .i64 C.lead) (.int .i64 C.timer) (.int .i64 C.commit) (.slice a4.G.A a4.G.n a4.G.c) (.slice a4.P.A a4.P.n a4.P.c))
                  have qz := set14_below (.int .i64 C.id) (.int .i64 C.h.t) (.int .i64 C.h.v) (.int .i64 C.h.l.base) (.int .i64 C.h.l.bt) (.slice a4.R.A a4.R.n a4.R.c) (.string C.h.s) (.slice a4.V.A a4.V.n a4.V.c) (.int .i64 C.role) (.int .i64 C.lead) (.int .i64 C.timer) (.int .i64 C.commit) (.slice a4.G.A a4.G.n a4.G.c) (.slice a4.P.A a4.P.n a4.P.c) q8 d7
                  replace hY := hid_mk (set14_blk hY.out (.int .i64 C.id) (.int .i64 C.h.t) (.int .i64 C.h.v) (.int .i64 C.h.l.base) (.int .i64 C.h.l.bt) (.slice a4.R.A a4.R.n a4.R.c) (.string C.h.s) (.slice a4.V.A a4.V.n a4.V.c) (.int .i64 C.role) (.int .i64 C.lead) (.int .i64 C.timer) (.int .i64 C.commit) (.slice a4.G.A a4.G.n a4.G.c) (.slice a4.P.A a4.P.n a4.P.c))
                  obtain ⟨wz, hwz⟩ : ∃ wz, set14 (w7.alloc (.cells #[.int .i64 0, .int .i64 0, .int .i64 0, .int .i64 0, .int .i64 0, .slice none 0 0, .string ⟨#[]⟩, .slice none 0 0, .int .i64 0, .int .i64 0, .int .i64 0, .int .i64 0, .slice none 0 0, .slice none 0 0] 30)) g24 (.int .i64 C.id) (.int .i64 C.h.t) (.int .i64 C.h.v) (.int .i64 C.h.l.base) (.int .i64 C.h.l.bt) (.slice a4.R.A a4.R.n a4.R.c) (.string C.h.s) (.slice a4.V.A a4.V.n a4.V.c) (.int .i64 C.role) (.int .i64 C.lead) (.int .i64 C.timer) (.int .i64 C.commit) (.slice a4.G.A a4.G.n a4.G.c) (.slice a4.P.A a4.P.n a4.P.c) = wz := ⟨_, rfl⟩
                  rw [hwz] at hB hMF hMG hOwn hKr hY qz hL9 hOk2 hok4
                  unfold set14 at hwz
                  rw [hwz]
                  clear hwz
                  refine hK.out _ _ (fun _ => ⟨(blk11v hB.out).2, hMF.out, mgs_head hL9.out⟩) ?_
                  clear hK K
                  try simp only [Act.put]
                  refine wpAnyT_one (i := 13) (by kernel_rfl) rfl (fun K hK => ?_)
                  go_simp
                  refine hK.out _ _ (fun _ => ⟨(blk11v hB.out).2, hMF.out, mgs_head hL9.out⟩) ?_
                  clear hK K
                  try simp only [Act.put]
                  refine wpAnyT_done (by kernel_rfl) ?_ _
                  go_wp2_with fail
                  go_meet
                  exact ⟨g24, a4, rfl, rfl, d7, qz, hB, hY, hMF, hMG, hOwn, hKr, hOk2, hok4⟩
                · skip
                  -- refine wpAnyT_one (i := 11) (by kernel_rfl) rfl (fun K hK => ?_)
                  go_simp
                  obtain ⟨g24, hg24⟩ : ∃ g, wd.heap.size = g := ⟨_, rfl⟩
                  have hYn : Hid (Blk (wd.alloc (.cells #[.int .i64 0, .int .i64 0, .int .i64 0, .int .i64 0, .int .i64 0, .slice none 0 0, .string ⟨#[]⟩, .slice none 0 0, .int .i64 0, .int .i64 0, .int .i64 0, .int .i64 0, .slice none 0 0, .slice none 0 0] 30)) g24 30 #[.int .i64 0, .int .i64 0, .int .i64 0, .int .i64 0, .int .i64 0, .slice none 0 0, .string ⟨#[]⟩, .slice none 0 0, .int .i64 0, .int .i64 0, .int .i64 0, .int .i64 0, .slice none 0 0, .slice none 0 0]) := by rw [← hg24]; exact Blk.new _ _ _
                  have d24 : ¬ g24 = gB := by rw [← hg24]; exact Nat.ne_of_gt hB.out.lt
                  replace hB := hid_mk (hB.out.alloc (.cells #[.int .i64 0, .int .i64 0, .int .i64 0, .int .i64 0, .int .i64 0, .slice none 0 0, .string ⟨#[]⟩, .slice none 0 0, .int .i64 0, .int .i64 0, .int .i64 0, .int .i64 0, .slice none 0 0, .slice none 0 0] 30))
                  replace hMF := hid_mk (hMF.out.alloc (.cells #[.int .i64 0, .int .i64 0, .int .i64 0, .int .i64 0, .int .i64 0, .slice none 0 0, .string ⟨#[]⟩, .slice none 0 0, .int .i64 0, .int .i64 0, .int .i64 0, .int .i64 0, .slice none 0 0, .slice none 0 0] 30))
                  replace hMG := hid_mk (hMG.out.alloc (.cells #[.int .i64 0, .int .i64 0, .int .i64 0, .int .i64 0, .int .i64 0, .slice none 0 0, .string ⟨#[]⟩, .slice none 0 0, .int .i64 0, .int .i64 0, .int .i64 0, .int .i64 0, .slice none 0 0, .slice none 0 0] 30))
                  replace hOwn := hid_mk (hOwn.out.alloc (.cells #[.int .i64 0, .int .i64 0, .int .i64 0, .int .i64 0, .int .i64 0, .slice none 0 0, .string ⟨#[]⟩, .slice none 0 0, .int .i64 0, .int .i64 0, .int .i64 0, .int .i64 0, .slice none 0 0, .slice none 0 0] 30))
                  replace hKr := hid_mk (hKr.out.trans (.alloc _ (.cells #[.int .i64 0, .int .i64 0, .int .i64 0, .int .i64 0, .int .i64 0, .slice none 0 0, .string ⟨#[]⟩, .slice none 0 0, .int .i64 0, .int .i64 0, .int .i64 0, .int .i64 0, .slice none 0 0, .slice none 0 0] 30)))
                  replace hL9 := hid_mk (hL9.out.to ((Below.refl _ wd).alloc (Nat.le_refl _) (.cells #[.int .i64 0, .int .i64 0, .int .i64 0, .int .i64 0, .int .i64 0, .slice none 0 0, .string ⟨#[]⟩, .slice none 0 0, .int .i64 0, .int .i64 0, .int .i64 0, .int .i64 0, .slice none 0 0, .slice none 0 0] 30)))
                  have q8 : Below w.heap.size w (wd.alloc (.cells #[.int .i64 0, .int .i64 0, .int .i64 0, .int .i64 0, .int .i64 0, .slice none 0 0, .string ⟨#[]⟩, .slice none 0 0, .int .i64 0, .int .i64 0, .int .i64 0, .int .i64 0, .slice none 0 0, .slice none 0 0] 30)) := by go_grown
                  have d7 : w.heap.size ≤ g24 := by rw [← hg24]; exact (show Below w.heap.size w wd by go_grown).size
                  have hY := hYn
                  clear hYn
                  rw [hg24]
                  replace hg24 := hid_mk hg24
                  refine hK.out _ _ (fun _ => ⟨(blk11v hB.out).2, hMF.out, mgs_head hL9.out⟩) ?_
                  clear hK K
                  try simp only [Act.put]
                  refine wpAnyT_one (i := 7) (by kernel_rfl) rfl (fun K hK => ?_)
                  go_simp
                  refine (Count_any Nf af ⟨2, N1.id, m.fr, N1.h.t, gv, 0, 0, [], 0, ⟨#[]⟩, []⟩ nilMA _ (B := w.heap.size) (by first | exact zq9'd | (simp only [World.size_alloc]; omega)) (hOkfd.out.to (by go_grown)) (nilMA_ok rfl rfl rfl) (ht.to (by go_grown)) mm (hm2.out _ (by go_grown))).mono ?_
                  rw [hC.out, hwn'.out]
                  rintro e w7 ⟨⟨a4, rfl, hok4⟩, hb1⟩
                  have q7 := (after (w := w) hb1 (by go_grown)).1
                  have z7 := q7.size
                  replace hok4 := hid_mk hok4
                  replace hOk2 := hid_mk (hOk2.out.to (after hb1 (by go_grown)).1)
                  replace hB := hid_mk (hB.out.keep hb1)
                  replace hMF := hid_mk (hMF.out.to hb1)
                  replace hMG := hid_mk (hMG.out.to hb1)
                  replace hOwn := hid_mk (own_keep hOwn.out hb1)
                  replace hKr := hid_mk (hKr.out.trans (KR.below hb1))
                  replace hL9 := hid_mk (hL9.out.to hb1)
                  replace hY := hid_mk (hY.out.keep hb1)
                  clear hb1
                  unfold nodeV
                  refine hK.out _ _ (fun _ => ⟨(blk11v hB.out).2, hMF.out, mgs_head hL9.out⟩) ?_
                  clear hK K
                  try simp only [Act.put]
                  refine wpAnyT_take (i := 8) rfl (by kernel_rfl) (by kernel_rfl) (by kernel_rfl) rfl (by kernel_rfl) (fun _ _ _ h => h) (by kernel_rfl) (fun w' hS => (by obtain ⟨⟨s0, s1, s2, s3, s4, s5, s6, s7, s8, s9, s10⟩, hSm, ⟨r0, r1, r2, r3, r4, r5, r6, r7, r8, r9, r10⟩⟩ := hS; go_simp; try with_reducible rfl)) ⟨(blk11v hB.out).2, hMF.out, mgs_head hL9.out⟩ ?_
                  simp only [Act.put]
                  refine wpAnyT_take (i := 9) rfl (by kernel_rfl) (by kernel_rfl) (by kernel_rfl) rfl (by kernel_rfl) (fun _ _ _ h => h) (by kernel_rfl) (fun w' hS => (by obtain ⟨⟨s0, s1, s2, s3, s4, s5, s6, s7, s8, s9, s10⟩, hSm, ⟨r0, r1, r2, r3, r4, r5, r6, r7, r8, r9, r10⟩⟩ := hS; go_simp; try with_reducible rfl)) ⟨(blk11v hB.out).2, hMF.out, mgs_head hL9.out⟩ ?_
                  simp only [Act.put]
                  refine wpAnyT_take (i := 10) rfl (by kernel_rfl) (by kernel_rfl) (by kernel_rfl) rfl (by kernel_rfl) (fun _ _ _ h => h) (by kernel_rfl) (fun w' hS => (by obtain ⟨⟨s0, s1, s2, s3, s4, s5, s6, s7, s8, s9, s10⟩, hSm, ⟨r0, r1, r2, r3, r4, r5, r6, r7, r8, r9, r10⟩⟩ := hS; go_simp; try with_reducible rfl)) ⟨(blk11v hB.out).2, hMF.out, mgs_head hL9.out⟩ ?_
                  simp only [Act.put]
                  obtain ⟨yl, y0, y1, y2, y3, y4, y5, y6, y7, y8, y9, y10, y11, y12, y13, yf0, yf1, yf2, yf3, yf4, yf5, yf6, yf7, yf8, yf9, yf10, yf11, yf12, yf13⟩ := blk14f hY.out
                  refine wpAnyT_one (i := 12) (by kernel_rfl) rfl (fun K hK => ?_)
                  go_simp
                  clear yl y0 y1 y2 y3 y4 y5 y6 y7 y8 y9 y10 y11 y12 y13 yf0 yf1 yf2 yf3 yf4 yf5 yf6 yf7 yf8 yf9 yf10 yf11 yf12 yf13
                  replace hOk2 := hid_mk (hOk2.out.kr (KR.st14 hY.out d7 (.int .i64 C.id) (.int .i64 C.h.t) (.int .i64 C.h.v) (.int .i64 C.h.l.base) (.int .i64 C.h.l.bt) (.slice a4.R.A a4.R.n a4.R.c) (.string C.h.s) (.slice a4.V.A a4.V.n a4.V.c) (.int .i64 C.role) (.int .i64 C.lead) (.int .i64 C.timer) (.int .i64 C.commit) (.slice a4.G.A a4.G.n a4.G.c) (.slice a4.P.A a4.P.n a4.P.c)))
                  replace hok4 := hid_mk (hok4.out.kr (KR.st14 hY.out d7 (.int .i64 C.id) (.int .i64 C.h.t) (.int .i64 C.h.v) (.int .i64 C.h.l.base) (.int .i64 C.h.l.bt) (.slice a4.R.A a4.R.n a4.R.c) (.string C.h.s) (.slice a4.V.A a4.V.n a4.V.c) (.int .i64 C.role) (.int .i64 C.lead) (.int .i64 C.timer) (.int .i64 C.commit) (.slice a4.G.A a4.G.n a4.G.c) (.slice a4.P.A a4.P.n a4.P.c)))
                  replace hB := hid_mk (set14_farS hB.out (fun e => d24 e.symm) (.int .i64 C.id) (.int .i64 C.h.t) (.int .i64 C.h.v) (.int .i64 C.h.l.base) (.int .i64 C.h.l.bt) (.slice a4.R.A a4.R.n a4.R.c) (.string C.h.s) (.slice a4.V.A a4.V.n a4.V.c) (.int .i64 C.role) (.int .i64 C.lead) (.int .i64 C.timer) (.int .i64 C.commit) (.slice a4.G.A a4.G.n a4.G.c) (.slice a4.P.A a4.P.n a4.P.c))
                  replace hMF := hid_mk (map_set14K hMF.out (hMF.out.ne_blk hY.out) (.int .i64 C.id) (.int .i64 C.h.t) (.int .i64 C.h.v) (.int .i64 C.h.l.base) (.int .i64 C.h.l.bt) (.slice a4.R.A a4.R.n a4.R.c) (.string C.h.s) (.slice a4.V.A a4.V.n a4.V.c) (.int .i64 C.role) (.int .i64 C.lead) (.int .i64 C.timer) (.int .i64 C.commit) (.slice a4.G.A a4.G.n a4.G.c) (.slice a4.P.A a4.P.n a4.P.c))
                  replace hMG := hid_mk (map_set14K hMG.out (hMG.out.ne_blk hY.out) (.int .i64 C.id) (.int .i64 C.h.t) (.int .i64 C.h.v) (.int .i64 C.h.l.base) (.int .i64 C.h.l.bt) (.slice a4.R.A a4.R.n a4.R.c) (.string C.h.s) (.slice a4.V.A a4.V.n a4.V.c) (.int .i64 C.role) (.int .i64 C.lead) (.int .i64 C.timer) (.int .i64 C.commit) (.slice a4.G.A a4.G.n a4.G.c) (.slice a4.P.A a4.P.n a4.P.c))
                  replace hOwn := hid_mk (own14 hOwn.out hY.out (by decide) (.int .i64 C.id) (.int .i64 C.h.t) (.int .i64 C.h.v) (.int .i64 C.h.l.base) (.int .i64 C.h.l.bt) (.slice a4.R.A a4.R.n a4.R.c) (.string C.h.s) (.slice a4.V.A a4.V.n a4.V.c) (.int .i64 C.role) (.int .i64 C.lead) (.int .i64 C.timer) (.int .i64 C.commit) (.slice a4.G.A a4.G.n a4.G.c) (.slice a4.P.A a4.P.n a4.P.c))
                  replace hKr := hid_mk (hKr.out.trans (KR.st14 hY.out d7 (.int .i64 C.id) (.int .i64 C.h.t) (.int .i64 C.h.v) (.int .i64 C.h.l.base) (.int .i64 C.h.l.bt) (.slice a4.R.A a4.R.n a4.R.c) (.string C.h.s) (.slice a4.V.A a4.V.n a4.V.c) (.int .i64 C.role) (.int .i64 C.lead) (.int .i64 C.timer) (.int .i64 C.commit) (.slice a4.G.A a4.G.n a4.G.c) (.slice a4.P.A a4.P.n a4.P.c)))
                  replace hL9 := hid_mk (mgs_set14K hL9.out hY.out (by decide) hLs.out (.int .i64 C.id) (.int .i64 C.h.t) (.int .i64 C.h.v) (.int .i64 C.h.l.base) (.int .i64 C.h.l.bt) (.slice a4.R.A a4.R.n a4.R.c) (.string C.h.s) (.slice a4.V.A a4.V.n a4.V.c) (.int .i64 C.role) (.int .i64 C.lead) (.int .i64 C.timer) (.int .i64 C.commit) (.slice a4.G.A a4.G.n a4.G.c) (.slice a4.P.A a4.P.n a4.P.c))
                  have qz := set14_below (.int .i64 C.id) (.int .i64 C.h.t) (.int .i64 C.h.v) (.int .i64 C.h.l.base) (.int .i64 C.h.l.bt) (.slice a4.R.A a4.R.n a4.R.c) (.string C.h.s) (.slice a4.V.A a4.V.n a4.V.c) (.int .i64 C.role) (.int .i64 C.lead) (.int .i64 C.timer) (.int .i64 C.commit) (.slice a4.G.A a4.G.n a4.G.c) (.slice a4.P.A a4.P.n a4.P.c) q7 d7
                  replace hY := hid_mk (set14_blk hY.out (.int .i64 C.id) (.int .i64 C.h.t) (.int .i64 C.h.v) (.int .i64 C.h.l.base) (.int .i64 C.h.l.bt) (.slice a4.R.A a4.R.n a4.R.c) (.string C.h.s) (.slice a4.V.A a4.V.n a4.V.c) (.int .i64 C.role) (.int .i64 C.lead) (.int .i64 C.timer) (.int .i64 C.commit) (.slice a4.G.A a4.G.n a4.G.c) (.slice a4.P.A a4.P.n a4.P.c))
                  obtain ⟨wz, hwz⟩ : ∃ wz, set14 w7 g24 (.int .i64 C.id) (.int .i64 C.h.t) (.int .i64 C.h.v) (.int .i64 C.h.l.base) (.int .i64 C.h.l.bt) (.slice a4.R.A a4.R.n a4.R.c) (.string C.h.s) (.slice a4.V.A a4.V.n a4.V.c) (.int .i64 C.role) (.int .i64 C.lead) (.int .i64 C.timer) (.int .i64 C.commit) (.slice a4.G.A a4.G.n a4.G.c) (.slice a4.P.A a4.P.n a4.P.c) = wz := ⟨_, rfl⟩
                  rw [hwz] at hB hMF hMG hOwn hKr hY qz hL9 hOk2 hok4
                  unfold set14 at hwz
                  rw [hwz]
                  clear hwz
                  refine hK.out _ _ (fun _ => ⟨(blk11v hB.out).2, hMF.out, mgs_head hL9.out⟩) ?_
                  clear hK K
                  try simp only [Act.put]
                  refine wpAnyT_one (i := 13) (by kernel_rfl) rfl (fun K hK => ?_)
                  go_simp
                  refine hK.out _ _ (fun _ => ⟨(blk11v hB.out).2, hMF.out, mgs_head hL9.out⟩) ?_
                  clear hK K
                  try simp only [Act.put]
                  refine wpAnyT_done (by kernel_rfl) ?_ _
                  go_wp2_with fail
                  go_meet
                  exact ⟨g24, a4, rfl, rfl, d7, qz, hB, hY, hMF, hMG, hOwn, hKr, hOk2, hok4⟩
              case rest =>
                clear hB hY hMF hMG hOwn hKr hOk2 hL9 q9 q9' z6 z9
                obtain ⟨g24, a4, rfl, rfl, d7, q10, hB, hY, hMF, hMG, hOwn, hKr, hOk2, hok4⟩ := hcut
                have z10 := q10.size
                obtain ⟨wf, hwf⟩ : ∃ q, won m.fr = q := ⟨_, rfl⟩
                have hwn2 : Hid ((G m.fr).getD (.bool false) = .bool wf) := by rw [← hwf]; exact hPlay.out.wn m.fr hask.out.2.2.1
                replace hwf := hid_mk hwf
                obtain ⟨yl, y0, y1, y2, y3, y4, y5, y6, y7, y8, y9, y10, y11, y12, y13⟩ := blk14c hY.out
                obtain ⟨ml, b0, b1, b2, b3, b4, b5, b6, b7, b8, b9, b10⟩ := blk11v hB.out
                cases wf
                case true =>
                  have hGl : Hid ((G m.fr).getD (.bool false) = .bool true) := by rw [Hid, hwn2.out]
                  go_wp2_with (first | (at_mapUpdate; refine mapI_update rfl _ _ _ 51 rfl 3 30 Tryd.underlying3 Tryd.underlying51 gm _ F1 rfl hMF.out (by unfold maxLen; omega) _ rfl hwr (.agg #[.int .i64 C.id, .int .i64 C.h.t, .int .i64 C.h.v, .int .i64 C.h.l.base, .int .i64 C.h.l.bt, .slice a4.R.A a4.R.n a4.R.c, .string C.h.s, .slice a4.V.A a4.V.n a4.V.c, .int .i64 C.role, .int .i64 C.lead, .int .i64 C.timer, .int .i64 C.commit, .slice a4.G.A a4.G.n a4.G.c, .slice a4.P.A a4.P.n a4.P.c]) rfl ?_; intro w9 hM6 hg6; have q10' : Below w.heap.size w w9 := grown_below q10 hg6 (fun k hk => by cases hk; exact hgw); replace hB := hid_mk (grown_neK hMF.out hg6 hB.out); replace hOwn := hid_mk (own_map hMF.out hg6 hOwn.out); replace hMG := hid_mk (hMG.out.grown hg6 hgne2); replace hKr := hid_mk (hKr.out.trans (KR.map hMF.out hgw hg6)); replace hOk2 := hid_mk (hOk2.out.kr (KR.map hMF.out hgw hg6)); replace hok4 := hid_mk (hok4.out.kr (KR.map hMF.out hgw hg6)); replace hMF := hid_mk hM6; clear hg6 hM6 ml b0 b1 b2 b3 b4 b5 b6 b7 b8 b9 b10; obtain ⟨ml, b0, b1, b2, b3, b4, b5, b6, b7, b8, b9, b10⟩ := blk11v hB.out; have hlk := mapI_eq hMG.out 52 Tryd.underlying3 Tryd.underlying52 (zeroBl _) m.fr hwr (.bool true) hGl.out) | (at_mapUpdate; refine mapI_update rfl _ _ _ 52 rfl 3 4 Tryd.underlying3 Tryd.underlying52 gw _ G rfl hMG.out (by unfold maxLen; omega) _ rfl hwr (.bool true) rfl ?_; intro w8 hM8 hg8; have q8 : Below w.heap.size w w8 := grown_below q10' hg8 (fun k hk => by cases hk; exact zr); replace hOwn := hid_mk (own_map hMG.out hg8 hOwn.out); replace hMF := hid_mk (hMF.out.grown hg8 hgne); replace hKr := hid_mk (hKr.out.trans (KR.map hMG.out zr hg8)); replace hOk2 := hid_mk (hOk2.out.kr (KR.map hMG.out zr hg8)); replace hok4 := hid_mk (hok4.out.kr (KR.map hMG.out zr hg8)); have hMG8 := hid_mk hM8; clear hg8 hM8))
                  have hPlay2 : Hid (Play w V T one two gm gw w8 (.slice (some ⟨ga, 0, none⟩) n9 c9) (b + 2) n9 (updN (updN f m.to N2) m.fr C) (updB won m.fr (won m.fr || wn)) ms' (updI F1 m.fr (.agg #[.int .i64 C.id, .int .i64 C.h.t, .int .i64 C.h.v, .int .i64 C.h.l.base, .int .i64 C.h.l.bt, .slice a4.R.A a4.R.n a4.R.c, .string C.h.s, .slice a4.V.A a4.V.n a4.V.c, .int .i64 C.role, .int .i64 C.lead, .int .i64 C.timer, .int .i64 C.commit, .slice a4.G.A a4.G.n a4.G.c, .slice a4.P.A a4.P.n a4.P.c])) (updI G m.fr (.bool true))) := by
                    refine ⟨hOwn.out, hMF.out, hMG8.out.mono (by omega), ?_, ?_, hPlay.out.ask⟩
                    · rw [← hF1.out]
                      have e1 := play_nd (x := m.to) (N := N2) (a := a1) hPlay.out.nd hKr.out hOk2.out
                      have e2 := play_nd (x := m.fr) (N := C) (a := a4) e1 (.refl _ _) hok4.out
                      exact e2
                    · have := play_wn (x := m.fr) (b := won m.fr || wn) hPlay.out.wn
                      rw [hwf.out] at this ⊢
                      exact this
                  go_roundw
                  case rel => exact ⟨k + 1, b + 2, updN (updN f m.to N2) m.fr C, updB won m.fr (won m.fr || wn), ms', updI F1 m.fr (.agg #[.int .i64 C.id, .int .i64 C.h.t, .int .i64 C.h.v, .int .i64 C.h.l.base, .int .i64 C.h.l.bt, .slice a4.R.A a4.R.n a4.R.c, .string C.h.s, .slice a4.V.A a4.V.n a4.V.c, .int .i64 C.role, .int .i64 C.lead, .int .i64 C.timer, .int .i64 C.commit, .slice a4.G.A a4.G.n a4.G.c, .slice a4.P.A a4.P.n a4.P.c]), updI G m.fr (.bool true), by go_num, by omega, q8, hPlay2, by omega, hstep⟩
                  case measure => simp [intOf]; omega
                case false =>
                  have hGl : Hid ((G m.fr).getD (.bool false) = .bool false) := by rw [Hid, hwn2.out]
                  go_wp2_with (first | (at_mapUpdate; refine mapI_update rfl _ _ _ 51 rfl 3 30 Tryd.underlying3 Tryd.underlying51 gm _ F1 rfl hMF.out (by unfold maxLen; omega) _ rfl hwr (.agg #[.int .i64 C.id, .int .i64 C.h.t, .int .i64 C.h.v, .int .i64 C.h.l.base, .int .i64 C.h.l.bt, .slice a4.R.A a4.R.n a4.R.c, .string C.h.s, .slice a4.V.A a4.V.n a4.V.c, .int .i64 C.role, .int .i64 C.lead, .int .i64 C.timer, .int .i64 C.commit, .slice a4.G.A a4.G.n a4.G.c, .slice a4.P.A a4.P.n a4.P.c]) rfl ?_; intro w9 hM6 hg6; have q10' : Below w.heap.size w w9 := grown_below q10 hg6 (fun k hk => by cases hk; exact hgw); replace hB := hid_mk (grown_neK hMF.out hg6 hB.out); replace hOwn := hid_mk (own_map hMF.out hg6 hOwn.out); replace hMG := hid_mk (hMG.out.grown hg6 hgne2); replace hKr := hid_mk (hKr.out.trans (KR.map hMF.out hgw hg6)); replace hOk2 := hid_mk (hOk2.out.kr (KR.map hMF.out hgw hg6)); replace hok4 := hid_mk (hok4.out.kr (KR.map hMF.out hgw hg6)); replace hMF := hid_mk hM6; clear hg6 hM6 ml b0 b1 b2 b3 b4 b5 b6 b7 b8 b9 b10; obtain ⟨ml, b0, b1, b2, b3, b4, b5, b6, b7, b8, b9, b10⟩ := blk11v hB.out; have hlk := mapI_eq hMG.out 52 Tryd.underlying3 Tryd.underlying52 (zeroBl _) m.fr hwr (.bool false) hGl.out) | (at_mapUpdate; refine mapI_update rfl _ _ _ 52 rfl 3 4 Tryd.underlying3 Tryd.underlying52 gw _ G rfl hMG.out (by unfold maxLen; omega) _ rfl hwr (.bool wn) rfl ?_; intro w8 hM8 hg8; have q8 : Below w.heap.size w w8 := grown_below q10' hg8 (fun k hk => by cases hk; exact zr); replace hOwn := hid_mk (own_map hMG.out hg8 hOwn.out); replace hMF := hid_mk (hMF.out.grown hg8 hgne); replace hKr := hid_mk (hKr.out.trans (KR.map hMG.out zr hg8)); replace hOk2 := hid_mk (hOk2.out.kr (KR.map hMG.out zr hg8)); replace hok4 := hid_mk (hok4.out.kr (KR.map hMG.out zr hg8)); have hMG8 := hid_mk hM8; clear hg8 hM8))
                  have hPlay2 : Hid (Play w V T one two gm gw w8 (.slice (some ⟨ga, 0, none⟩) n9 c9) (b + 2) n9 (updN (updN f m.to N2) m.fr C) (updB won m.fr (won m.fr || wn)) ms' (updI F1 m.fr (.agg #[.int .i64 C.id, .int .i64 C.h.t, .int .i64 C.h.v, .int .i64 C.h.l.base, .int .i64 C.h.l.bt, .slice a4.R.A a4.R.n a4.R.c, .string C.h.s, .slice a4.V.A a4.V.n a4.V.c, .int .i64 C.role, .int .i64 C.lead, .int .i64 C.timer, .int .i64 C.commit, .slice a4.G.A a4.G.n a4.G.c, .slice a4.P.A a4.P.n a4.P.c])) (updI G m.fr (.bool wn))) := by
                    refine ⟨hOwn.out, hMF.out, hMG8.out.mono (by omega), ?_, ?_, hPlay.out.ask⟩
                    · rw [← hF1.out]
                      have e1 := play_nd (x := m.to) (N := N2) (a := a1) hPlay.out.nd hKr.out hOk2.out
                      have e2 := play_nd (x := m.fr) (N := C) (a := a4) e1 (.refl _ _) hok4.out
                      exact e2
                    · have := play_wn (x := m.fr) (b := won m.fr || wn) hPlay.out.wn
                      rw [hwf.out] at this ⊢
                      exact this
                  go_roundw
                  case rel => exact ⟨k + 1, b + 2, updN (updN f m.to N2) m.fr C, updB won m.fr (won m.fr || wn), ms', updI F1 m.fr (.agg #[.int .i64 C.id, .int .i64 C.h.t, .int .i64 C.h.v, .int .i64 C.h.l.base, .int .i64 C.h.l.bt, .slice a4.R.A a4.R.n a4.R.c, .string C.h.s, .slice a4.V.A a4.V.n a4.V.c, .int .i64 C.role, .int .i64 C.lead, .int .i64 C.timer, .int .i64 C.commit, .slice a4.G.A a4.G.n a4.G.c, .slice a4.P.A a4.P.n a4.P.c]), updI G m.fr (.bool wn), by go_num, by omega, q8, hPlay2, by omega, hstep⟩
                  case measure => simp [intOf]; omega
        have hend := inv_end hz.out hInv.out h12.out.2.2
        have hb1x := hdg.out one h12.out.1
        have hb2x := hdg.out two h12.out.2.1
        have hwo1 : (Lit.int .i64 one).wf = true := WalkArith.wf_i64 (by omega)
        have hwo2 : (Lit.int .i64 two).wf = true := WalkArith.wf_i64 (by omega)
        have g1' := hPlay.out.wn one (.inl rfl)
        have g2' := hPlay.out.wn two (.inr rfl)
        obtain ⟨o1, ho1'⟩ : ∃ q, won one = q := ⟨_, rfl⟩
        obtain ⟨o2, ho2'⟩ : ∃ q, won two = q := ⟨_, rfl⟩
        rw [ho1'] at g1' hend
        rw [ho2'] at g2' hend
        replace ho1' := hid_mk ho1'
        replace ho2' := hid_mk ho2'
        have g1 := mapI_eq hPlay.out.mG 52 Tryd.underlying3 Tryd.underlying52 (zeroBl _) one hwo1 (.bool o1) g1'
        have g2 := mapI_eq hPlay.out.mG 52 Tryd.underlying3 Tryd.underlying52 (zeroBl _) two hwo2 (.bool o2) g2'
        replace g1' := hid_mk g1'
        replace g2' := hid_mk g2'
        cases o1
        case false =>
          clear hend g2
          go_wp2
          refine ends_ret hQ (results_tmp rfl _ _ _) rfl ?_
          exact ⟨rfl, hb⟩
        cases o2
        case true => cases hend
        clear hend
        go_wp2
        refine ends_ret hQ (results_tmp rfl _ _ _) rfl ?_
        exact ⟨rfl, hb⟩
theorem LawOne_walk {w : World} (ht : Tab w) (mm : Int) (hm : w.cell? ⟨1, 0, none⟩ = some (.int .i64 mm)) (VA : Option Addr) (n c : Nat) (V : List Int) (hV0 : Ints w w.heap.size VA n V) (hnc : n ≤ c) (hcb : c * 8 ≤ 140737488351232) (_ : ∀ z ∈ V, -9223372036854775808 ≤ z ∧ z ≤ 9223372036854775807) (T : Int) (_ : -9223372036854775808 ≤ T) (_ : T ≤ 9223372036854775807) (OA : Option Addr) (on oc : Nat) (os : List Int) (hO0 : Ints w w.heap.size OA on os) (honc : on ≤ oc) (hocb : oc * 8 ≤ 140737488351232) (hos : ∀ z ∈ os, -9223372036854775808 ≤ z ∧ z ≤ 9223372036854775807) :
    Calls Tryd.prog 6 #[.slice VA n c, .int .i64 T, .slice OA on oc] w fun e w' => e = .returned (.bool true) ∧ Below w.heap.size w w' := LawOne_any VA n c V T OA on oc os w hV0 hnc hcb hO0 honc hocb hos ht mm hm
end Go.Proofs.YtnaindoeihnmpaaDoor
