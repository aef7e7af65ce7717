/-
  WHAT IS PROVED HERE: what the reference's block hands back. Conditions: texts of at most 2^47 - 4096 bytes.
-/
import Derived.Test.YtngaeencnklbdaaRef1
namespace Go.Proofs.Ytngaeencnklbdaa
open Go.RowKit

theorem u32J : (Try.prog.info? 62).map (fun i => (i.zero, i.size, i.bytes)) = some (some (.int .u32 0), 1, 4) := by kernel_rfl
theorem info_parts4 {P : Program} {t : TypeId} {z : Value} (h : (P.info? t).map (fun i => (i.zero, i.size, i.bytes)) = some (some z, 1, 4)) : ∃ i, P.info? t = some i ∧ i.zero = some z ∧ i.size = 1 ∧ i.bytes = 4 := by
  obtain ⟨i, hi, he⟩ := Option.map_eq_some_iff.1 h
  injection he with e1 e2
  injection e2 with e2 e3
  exact ⟨i, hi, e1, e2, e3⟩
theorem v32_one (xs : List Int) : ∀ u ∈ xs.map v32, u.oneCell' = true := by
  intro u hu
  simp only [List.mem_map] at hu
  obtain ⟨c, _, rfl⟩ := hu
  rfl
theorem wordB_drop (l : List UInt8) (k : Nat) : wordB (l.drop (4 * k)) 0 = wordB l k := by
  unfold wordB
  simp [List.getElem?_drop]
def RetW (w : World) (xs : List Int) (e : Ending) (w' : World) : Prop := ∃ A c, e = .returned (.slice A 8 c) ∧ 8 ≤ c ∧ Reads w' w.heap.size 62 1 A 8 (xs.map v32) ∧ Below w.heap.size w w'
theorem bc_drop_ (l : List UInt8) (k : Nat) : Lib.byteCells (l.drop k) = (Lib.byteCells l).drop k := by unfold Lib.byteCells; rw [List.map_drop]
theorem stilT_2 (x : Int) (w : World) : Calls Try.prog 54 #[.int .u32 x, .int .i64 2] w fun e w' => e = .returned (.int .u32 (rU x 2)) ∧ w' = w := (turned_2 x w).mono fun _ _ h => ⟨h.1, h.2.symm⟩
theorem stilT_6 (x : Int) (w : World) : Calls Try.prog 54 #[.int .u32 x, .int .i64 6] w fun e w' => e = .returned (.int .u32 (rU x 6)) ∧ w' = w := (turned_6 x w).mono fun _ _ h => ⟨h.1, h.2.symm⟩
theorem stilT_7 (x : Int) (w : World) : Calls Try.prog 54 #[.int .u32 x, .int .i64 7] w fun e w' => e = .returned (.int .u32 (rU x 7)) ∧ w' = w := (turned_7 x w).mono fun _ _ h => ⟨h.1, h.2.symm⟩
theorem stilT_11 (x : Int) (w : World) : Calls Try.prog 54 #[.int .u32 x, .int .i64 11] w fun e w' => e = .returned (.int .u32 (rU x 11)) ∧ w' = w := (turned_11 x w).mono fun _ _ h => ⟨h.1, h.2.symm⟩
theorem stilT_13 (x : Int) (w : World) : Calls Try.prog 54 #[.int .u32 x, .int .i64 13] w fun e w' => e = .returned (.int .u32 (rU x 13)) ∧ w' = w := (turned_13 x w).mono fun _ _ h => ⟨h.1, h.2.symm⟩
theorem stilT_17 (x : Int) (w : World) : Calls Try.prog 54 #[.int .u32 x, .int .i64 17] w fun e w' => e = .returned (.int .u32 (rU x 17)) ∧ w' = w := (turned_17 x w).mono fun _ _ h => ⟨h.1, h.2.symm⟩
theorem stilT_18 (x : Int) (w : World) : Calls Try.prog 54 #[.int .u32 x, .int .i64 18] w fun e w' => e = .returned (.int .u32 (rU x 18)) ∧ w' = w := (turned_18 x w).mono fun _ _ h => ⟨h.1, h.2.symm⟩
theorem stilT_19 (x : Int) (w : World) : Calls Try.prog 54 #[.int .u32 x, .int .i64 19] w fun e w' => e = .returned (.int .u32 (rU x 19)) ∧ w' = w := (turned_19 x w).mono fun _ _ h => ⟨h.1, h.2.symm⟩
theorem stilT_22 (x : Int) (w : World) : Calls Try.prog 54 #[.int .u32 x, .int .i64 22] w fun e w' => e = .returned (.int .u32 (rU x 22)) ∧ w' = w := (turned_22 x w).mono fun _ _ h => ⟨h.1, h.2.symm⟩
theorem stilT_25 (x : Int) (w : World) : Calls Try.prog 54 #[.int .u32 x, .int .i64 25] w fun e w' => e = .returned (.int .u32 (rU x 25)) ∧ w' = w := (turned_25 x w).mono fun _ _ h => ⟨h.1, h.2.symm⟩
set_option maxRecDepth 100000 in
set_option maxHeartbeats 8000000 in
theorem rblock_any (s0 : S8) (Ah : Option Addr) (ch : Nat) (Ak : Option Addr) (ck : Nat) (A : Option Addr) (n cap : Nat) (l : List UInt8) (w : World) {B : Nat}
    (hh : Reads w B 62 1 Ah 8 ((s8L s0).map v32)) (hk : Reads w B 62 1 Ak 64 (kK.map v32)) (h : Reads w B 5 1 A n (Lib.byteCells l)) (hn : 64 ≤ n) (hn2 : n ≤ 140737488355328) (hcap : n ≤ cap) :
    Calls Try.prog 49 #[.slice Ah 8 ch, .slice Ak 64 ck, .slice A n cap] w (RetW w (s8L (over8 l s0))) := by
  obtain ⟨j0, hj0, hjz, hj1, hj2⟩ := info_parts4 u32J
  obtain ⟨i0, hi0, hz0, hz1, hz2⟩ := info_parts byteJ
  replace hh := hid_mk hh
  replace hk := hid_mk hk
  replace h := hid_mk h
  have hown0 : OwnM (w.alloc (.cells #[] 62)) w.heap.size 62 (.slice (some ⟨w.heap.size, 0, none⟩) 0 0) 0 [] := OwnM.of (World.ownsRow_lit (base := w.heap.size) (e := 62) (size := 1) w #[] 0 (Nat.le_refl _) (by unfold maxLen; omega) (by simp))
  refine calls_of_wpQ Try.func49 rfl ?_
  intro Q hQ
  simp only [Try.ntmps49, List.size_toArray, List.length_cons, List.length_nil, Nat.reduceAdd, Nat.reduceSub, Array.replicate_succ, Array.replicate_zero, List.push_toArray, List.append_toArray, List.nil_append, List.cons_append]
  go_wp2
  go_loopw [7, 8] (fun s i wr => ∃ (k c : Nat) (A' : Option Addr), s = .slice A' k c ∧ k ≤ c ∧ k ≤ 16 ∧ i = .int .i64 k ∧ OwnM wr w.heap.size 62 (.slice A' k c) k ((wList l k).map v32) ∧ Hid (Below w.heap.size w wr)) (fun _ i _ => 16 - (intOf i).toNat)
  case atStart => exact ⟨0, 0, some ⟨w.heap.size, 0, none⟩, rfl, Nat.le_refl _, by omega, rfl, hown0, hid_mk (by go_grown)⟩
  case round =>
    clear hown0
    obtain ⟨k, c', A', rfl, hc', hk16, rfl, hown, hb⟩ := hrel
    by_cases hlt : k < 16
    · have hR := ((h.out.to hb.out).cutA (k := 4 * k) (cap := cap) (by omega) hcap)
      rw [Nat.mul_one, ← bc_drop_] at hR
      have hsl := run_slice_from (P := Try.prog) (w := wr) 67 5 Try.underlying67 i0 hi0 1 hz1 A n cap (4 * (k : Int)) (by omega) (by omega)
      rw [show (4 * (k : Int)).toNat = 4 * k from by omega] at hsl
      have k1 : (0 : Int) ≤ k := by omega
      have k2 : (k : Int) < 16 := by omega
      have k3 : 4 ≤ n - 4 * k := by omega
      have k4 : n - 4 * k ≤ 140737488355328 := by omega
      have hwd := hid_mk (wordB_drop l k)
      have hwl : Hid ((wList l (k + 1)).map v32 = (wList l k).map v32 ++ [wordB l k].map v32) := by rw [Hid, wList, if_pos hlt, List.map_append]
      obtain ⟨x, hx⟩ : ∃ x, wordB l k = x := ⟨_, rfl⟩
      rw [hx] at hwd hwl
      replace hx := hid_mk hx
      replace hR := hid_mk hR
      go_wp2_with (first | (go_at_call 53; refine (number_any _ _ _ (l.drop (4 * k)) _ hR.out k3 k4).mono ?_; rw [hwd.out]; rintro e w2 ⟨rfl, hb2⟩; have q2 := hid_mk (after (w := w) hb2 hb.out).1; replace hown := hown.below hb2; clear hb2) | (at_builtin; refine wpl_append_new rfl (.tmp 30) (.tmp 36) 63 rfl 62 j0 _ 4 Try.underlying63 hj0 hjz hj1 hj2 rfl q2.out (.slice A' k c') k _ rfl hown ([x].map v32) 1 1 rfl _ rfl (by simp [Act.eval]) (v32_one _) (by omega) (by omega) ?_; intro A5 c5 w5 hown5 hc5 q5 st hs5; rw [← hwl.out] at hown5; clear st))
      go_roundw
      case rel => exact ⟨k + 1, c5, A5, rfl, hc5, by omega, by go_num, hown5, hid_mk q5⟩
      case measure => simp [intOf]; omega
    · obtain rfl : k = 16 := by omega
      clear hlt hk16
      go_wp2
      rw [show ((16 : Nat) : Int) = (16 : Int) from rfl]
      go_loopw [7, 9] (fun s i wr => ∃ (k c : Nat) (A' : Option Addr), s = .slice A' k c ∧ k ≤ c ∧ 16 ≤ k ∧ k ≤ 64 ∧ i = .int .i64 k ∧ OwnM wr w.heap.size 62 (.slice A' k c) k ((wList l k).map v32) ∧ Hid (Below w.heap.size w wr)) (fun _ i _ => 64 - (intOf i).toNat)
      case atStart => exact ⟨16, c', A', rfl, hc', by omega, by omega, rfl, hown, hb⟩
      case round =>
        clear hown hb hc'
        obtain ⟨k, c', A', rfl, hc', hk16, hk64, rfl, hown, hb⟩ := hrel
        by_cases hlt : k < 64
        · obtain ⟨b, rfl, hbl, hc⟩ := hown.row (by omega)
          have hwl := wList_len l k
          have ce : ∀ j, j < k → wr.cell? ⟨b, j, none⟩ = some (.int .u32 ((wList l k).getD j 0)) := fun j hj => hc _ _ (by
            rw [List.getElem?_map, List.getD_eq_getElem?_getD, List.getElem?_eq_getElem (by omega)]; rfl)
          have c2 := ce (k - 2) (by omega)
          have c15 := ce (k - 15) (by omega)
          have c7 := ce (k - 7) (by omega)
          have c16 := ce (k - 16) (by omega)
          clear ce hc hwl
          obtain ⟨x2, hx2⟩ : ∃ x, (wList l k).getD (k - 2) 0 = x := ⟨_, rfl⟩
          obtain ⟨x15, hx15⟩ : ∃ x, (wList l k).getD (k - 15) 0 = x := ⟨_, rfl⟩
          obtain ⟨x7, hx7⟩ : ∃ x, (wList l k).getD (k - 7) 0 = x := ⟨_, rfl⟩
          obtain ⟨x16, hx16⟩ : ∃ x, (wList l k).getD (k - 16) 0 = x := ⟨_, rfl⟩
          have hwn := w_step x2 x7 x15 x16
          have hnx : (sg1 x2 + x7 + sg0 x15 + x16) % 4294967296 = wNext (wList l k) k := by unfold wNext; rw [hx2, hx7, hx15, hx16]
          have hwl : Hid ((wList l (k + 1)).map v32 = (wList l k).map v32 ++ [wNext (wList l k) k].map v32) := by rw [Hid, wList, if_neg (by omega), List.map_append]
          obtain ⟨y, hy⟩ : ∃ y, wNext (wList l k) k = y := ⟨_, rfl⟩
          rw [hnx, hy] at hwn
          rw [hy] at hwl
          rw [hx2] at c2
          rw [hx15] at c15
          rw [hx7] at c7
          rw [hx16] at c16
          have m7 : Hid (((wList l k).map v32)[k - 7]? = some (.int .u32 x7)) := by rw [Hid, List.getElem?_map, ← hx7, List.getD_eq_getElem?_getD, List.getElem?_eq_getElem (by rw [wList_len]; omega)]; rfl
          have m16 : Hid (((wList l k).map v32)[k - 16]? = some (.int .u32 x16)) := by rw [Hid, List.getElem?_map, ← hx16, List.getD_eq_getElem?_getD, List.getElem?_eq_getElem (by rw [wList_len]; omega)]; rfl
          clear hx2 hx15 hx7 hx16 hnx hy
          have i0' : (0 : Int) ≤ (k : Int) - 2 := by omega
          have i1' : (0 : Int) ≤ (k : Int) - 15 := by omega
          have i2' : (0 : Int) ≤ (k : Int) - 7 := by omega
          have i3' : (0 : Int) ≤ (k : Int) - 16 := by omega
          have i4' : (k : Int) < 64 := by omega
          have b2 : (2 : Int) ≤ k := by omega
          have b2' : (k : Int) - 2 < k := by omega
          have b15 : (15 : Int) ≤ k := by omega
          have b15' : (k : Int) - 15 < k := by omega
          have b7 : (7 : Int) ≤ k := by omega
          have b7' : (k : Int) - 7 < k := by omega
          have b16 : (16 : Int) ≤ k := by omega
          have b16' : (k : Int) - 16 < k := by omega
          have j0' : IntKind.i64.wrap ((k : Int) - 2) = (k : Int) - 2 := IntWalk.i64_in _ (by omega)
          have j1' : IntKind.i64.wrap ((k : Int) - 15) = (k : Int) - 15 := IntWalk.i64_in _ (by omega)
          have j2' : IntKind.i64.wrap ((k : Int) - 7) = (k : Int) - 7 := IntWalk.i64_in _ (by omega)
          have j3' : IntKind.i64.wrap ((k : Int) - 16) = (k : Int) - 16 := IntWalk.i64_in _ (by omega)
          have t0 : ((k : Int) - 2).toNat = k - 2 := by omega
          have t1 : ((k : Int) - 15).toNat = k - 15 := by omega
          have t2 : ((k : Int) - 7).toNat = k - 7 := by omega
          have t3 : ((k : Int) - 16).toNat = k - 16 := by omega
          go_wp2_with fail
          refine (turned_17 _ _).mono ?_
          rintro e w2 ⟨rfl, rfl⟩
          go_wp2_with fail
          refine (turned_19 _ _).mono ?_
          rintro e w2 ⟨rfl, rfl⟩
          go_wp2_with fail
          refine (turned_7 _ _).mono ?_
          rintro e w2 ⟨rfl, rfl⟩
          go_wp2_with fail
          refine (turned_18 _ _).mono ?_
          rintro e w2 ⟨rfl, rfl⟩
          go_wp2_with fail
          go_region_held3 (fun w' => w'.cell? ⟨b, k - 7, none⟩ = some (.int .u32 x7) ∧ w'.cell? ⟨b, k - 16, none⟩ = some (.int .u32 x16)) ((first | (refine ⟨?_, ?_⟩ <;> assumption) | go_keep)) ((refine step_append_m (by rfl) (.tmp 68) (.tmp 84) 63 (by rfl) 62 j0 _ 4 Try.underlying63 hj0 hjz hj1 hj2 rfl (W := w) (w := (wr.alloc (.cells #[.int .u32 y] 62)).drew) ((hb.out.alloc hb.out.size _).drew) (.slice (some ⟨b, 0, none⟩) k c') k _ (by simp [Act.eval]) ((hown.alloc _).drew) w.heap.size (some ⟨wr.heap.size, 0, none⟩) 1 1 ([y].map v32) (by simp [Act.eval]) (reads_new wr #[.int .u32 y] 62 1 1 w.heap.size rfl) (v32_one _) (by omega) (by omega) ?_; intro A5 c5 w5 hown5 hc5 q5 st hs5 old; have o7 := old b rfl _ _ m7.out; have o16 := old b rfl _ _ m16.out; clear old))
          have hown6 : OwnM w5 w.heap.size 62 (.slice A5 (k + 1) c5) (k + 1) ((wList l (k + 1)).map v32) := by rw [hwl.out]; exact hown5
          go_wp2
          go_roundw
          case rel => exact ⟨k + 1, c5, A5, rfl, hc5, by omega, by omega, by go_num, hown6, hid_mk q5⟩
          case measure => simp [intOf]; omega
        · obtain rfl : k = 64 := by omega
          clear hlt hk16 hk64
          rw [show ((64 : Nat) : Int) = (64 : Int) from rfl]
          obtain ⟨w4, rfl⟩ : ∃ w4 : World, w4 = wr := ⟨_, rfl⟩
          have own7 := hid_mk hown
          obtain ⟨bh, oh, rfl, hbhl, hbht, hhc⟩ := (hh.out.to hb.out).2 (by omega)
          obtain ⟨sa, sb, sc, sd, se, sf, sg, sh⟩ := s0
          have e0 : w4.cell? ⟨bh, oh, none⟩ = some (.int .u32 sa) := hhc 0 _ rfl
          have e1 : w4.cell? ⟨bh, oh + 1, none⟩ = some (.int .u32 sb) := hhc 1 _ rfl
          have e2 : w4.cell? ⟨bh, oh + 2, none⟩ = some (.int .u32 sc) := hhc 2 _ rfl
          have e3 : w4.cell? ⟨bh, oh + 3, none⟩ = some (.int .u32 sd) := hhc 3 _ rfl
          have e4 : w4.cell? ⟨bh, oh + 4, none⟩ = some (.int .u32 se) := hhc 4 _ rfl
          have e5 : w4.cell? ⟨bh, oh + 5, none⟩ = some (.int .u32 sf) := hhc 5 _ rfl
          have e6 : w4.cell? ⟨bh, oh + 6, none⟩ = some (.int .u32 sg) := hhc 6 _ rfl
          have e7 : w4.cell? ⟨bh, oh + 7, none⟩ = some (.int .u32 sh) := hhc 7 _ rfl
          clear hhc hown
          go_wp2_with fail
          refine wp_region_still_lit (by kernel_rfl) (by kernel_rfl) ?_
          repeat still_step
          refine wpStill_nil ?_
          change Exit.then _ _ _ _ w4.drew
          go_wp2
          go_loopw [14, 15, 16, 17, 18, 19, 20, 21, 22] (fun va vb vc vd ve vf vg vh i wr => ∃ (k : Nat) (s : S8), k ≤ 64 ∧ i = .int .i64 k ∧ va = .int .u32 s.a ∧ vb = .int .u32 s.b ∧ vc = .int .u32 s.c ∧ vd = .int .u32 s.d ∧ ve = .int .u32 s.e ∧ vf = .int .u32 s.f ∧ vg = .int .u32 s.g ∧ vh = .int .u32 s.h ∧ Hid (Below w4.heap.size w4 wr) ∧ Hid (s = run8 (wList l 64) ⟨sa, sb, sc, sd, se, sf, sg, sh⟩ k)) (fun _ _ _ _ _ _ _ _ i _ => 64 - (intOf i).toNat)
          case atStart => exact ⟨0, ⟨sa, sb, sc, sd, se, sf, sg, sh⟩, by omega, rfl, rfl, rfl, rfl, rfl, rfl, rfl, rfl, rfl, hid_mk (by go_grown), rfl⟩
          case round =>
            obtain ⟨k, s, hk64, rfl, rfl, rfl, rfl, rfl, rfl, rfl, rfl, rfl, hb3, hs⟩ := hrel
            obtain ⟨va, vb, vc, vd, ve, vf, vg, vh⟩ := s
            have q3 := hid_mk (hb.out.trans (hb3.out.mono hb.out.size))
            by_cases hlt : k < 64
            · clear e0 e1 e2 e3 e4 e5 e6 e7
              obtain ⟨bk, ok, rfl, _, _, hkc⟩ := (hk.out.to q3.out).2 (by omega)
              obtain ⟨kk, hkk⟩ : ∃ x, kK.getD k 0 = x := ⟨_, rfl⟩
              obtain ⟨ww, hww⟩ : ∃ x, (wList l 64).getD k 0 = x := ⟨_, rfl⟩
              have hkl : k < kK.length := hlt
              have hwl2 := wList_len l 64
              have ck : wr.cell? ⟨bk, ok + k, none⟩ = some (.int .u32 kk) := hkc k _ (by rw [← hkk, List.getElem?_map, List.getD_eq_getElem?_getD, List.getElem?_eq_getElem hkl]; rfl)
              obtain ⟨bw, rfl, _, hwc⟩ := (own7.out.below hb3.out).row (by omega)
              have cw : wr.cell? ⟨bw, k, none⟩ = some (.int .u32 ww) := hwc k _ (by rw [← hww, List.getElem?_map, List.getD_eq_getElem?_getD, List.getElem?_eq_getElem (by omega)]; rfl)
              clear hkc hwc hkl hwl2
              have i0' : (0 : Int) ≤ k := by omega
              have i1' : (k : Int) < 64 := by omega
              replace hkk := hid_mk hkk
              replace hww := hid_mk hww
              obtain ⟨T1, hT1⟩ : ∃ T, tOne ⟨va, vb, vc, vd, ve, vf, vg, vh⟩ kk ww = T := ⟨_, rfl⟩
              obtain ⟨T2, hT2⟩ : ∃ T, tTwo ⟨va, vb, vc, vd, ve, vf, vg, vh⟩ = T := ⟨_, rfl⟩
              have hUM : (if IntKind.u32.signed = true then (-1 : Int) else IntKind.u32.max) = uMax := rfl
              have eT1 := t_one va vb vc vd ve vf vg vh kk ww
              have eT2 := t_two va vb vc vd ve vf vg vh
              rw [hT1] at eT1
              rw [hT2] at eT2
              replace hT1 := hid_mk hT1
              replace hT2 := hid_mk hT2
              dsimp only
              go_wp2_with fail
              refine wp_region_still_lit (by kernel_rfl) (by kernel_rfl) ?_
              repeat still_step
              still_call (stilT_6 _ _)
              repeat still_step
              still_call (stilT_11 _ _)
              repeat still_step
              still_call (stilT_25 _ _)
              repeat still_step
              refine wpStill_nil ?_
              change Exit.then _ _ _ _ wr.drew
              go_wp2_with fail
              refine (turned_2 _ _).mono ?_
              rintro e w7 ⟨rfl, rfl⟩
              go_wp2_with fail
              refine (turned_13 _ _).mono ?_
              rintro e w7 ⟨rfl, rfl⟩
              go_wp2_with fail
              refine (turned_22 _ _).mono ?_
              rintro e w7 ⟨rfl, rfl⟩
              go_wp2
              go_roundw
              case rel =>
                refine ⟨k + 1, rnd ⟨va, vb, vc, vd, ve, vf, vg, vh⟩ kk ww, by omega, by go_num, ?_, rfl, rfl, rfl, ?_, rfl, rfl, rfl, hid_mk hb3.out.drew, ?_⟩
                · unfold rnd; rw [hT1.out, hT2.out]
                · unfold rnd; rw [hT1.out]
                · rw [Hid, run8, ← hs.out, hkk.out, hww.out]
              case measure => simp [intOf]; omega
            · obtain rfl : k = 64 := by omega
              clear hlt hk64
              rw [show ((64 : Nat) : Int) = (64 : Int) from rfl]
              replace e0 := ((bcell hb3.out).1 _ _ hbhl).trans e0
              replace e1 := ((bcell hb3.out).1 _ _ hbhl).trans e1
              replace e2 := ((bcell hb3.out).1 _ _ hbhl).trans e2
              replace e3 := ((bcell hb3.out).1 _ _ hbhl).trans e3
              replace e4 := ((bcell hb3.out).1 _ _ hbhl).trans e4
              replace e5 := ((bcell hb3.out).1 _ _ hbhl).trans e5
              replace e6 := ((bcell hb3.out).1 _ _ hbhl).trans e6
              replace e7 := ((bcell hb3.out).1 _ _ hbhl).trans e7
              dsimp only
              go_wp2_with fail
              go_still_tail 40, (by kernel_rfl)
              change wpList _ _ _ _ _ wr.drew
              go_wp2
              refine ends_ret hQ (results_tmp rfl _ _ _) rfl ?_
              have hrd : Reads (wr.alloc (.cells #[.int .u32 ((sa + va) % 4294967296), .int .u32 ((sb + vb) % 4294967296), .int .u32 ((sc + vc) % 4294967296), .int .u32 ((sd + vd) % 4294967296), .int .u32 ((se + ve) % 4294967296), .int .u32 ((sf + vf) % 4294967296), .int .u32 ((sg + vg) % 4294967296), .int .u32 ((sh + vh) % 4294967296)] 62)).drew w.heap.size 62 1 (some ⟨wr.heap.size, 0, none⟩) 8 ((s8L (over8 l ⟨sa, sb, sc, sd, se, sf, sg, sh⟩)).map v32) := by
                rw [over8, ← hs.out]
                exact reads_new wr #[.int .u32 ((sa + va) % 4294967296), .int .u32 ((sb + vb) % 4294967296), .int .u32 ((sc + vc) % 4294967296), .int .u32 ((sd + vd) % 4294967296), .int .u32 ((se + ve) % 4294967296), .int .u32 ((sf + vf) % 4294967296), .int .u32 ((sg + vg) % 4294967296), .int .u32 ((sh + vh) % 4294967296)] 62 8 1 w.heap.size rfl
              exact ⟨_, 8, rfl, Nat.le_refl _, hrd, (q3.out.alloc q3.out.size _).drew⟩
end Go.Proofs.Ytngaeencnklbdaa
