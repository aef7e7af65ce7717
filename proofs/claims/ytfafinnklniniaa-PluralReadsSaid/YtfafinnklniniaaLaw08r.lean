/-
  WHAT IS PROVED HERE: two rules that are the same are alike; the walk of the law PluralReads: it returns true and writes nothing that was there. No condition.
-/
import Derived.Test.YtfafinnklniniaaPluT
import Derived.Test.YtfafinnklniniaaPlu8
namespace Go.Proofs.Ytfafinnklniniaa
open Go.RowKit

theorem spanUnder : Try.prog.underlying 52 = some (.struct (Try.prog.fieldsOf 52)) := by kernel_rfl
theorem spanHeld : Try.prog.stoodInHeld 52 = false := by kernel_rfl
theorem run_neq_span (a b : Int) (w : World) : (binOp .neq 52 (.agg #[.int .i64 a, .int .i64 b]) (.agg #[.int .i64 a, .int .i64 b])).run Try.prog w = .ok (.bool false) w := by
  rw [run_neq_struct, run_equalIn_struct w 9999 52 _ _ spanUnder spanHeld]
  simp [go_sem, Try.underlying52]
theorem head_same {α : Type} {l : List α} {k : Nat} {x y : α} (h : l.drop k = x :: l.drop (k + 1)) (h' : l.drop k = y :: l.drop (k + 1)) : x = y := by
  rw [h] at h'
  injection h'
set_option maxRecDepth 100000 in
set_option maxHeartbeats 6400000 in
theorem Like_same (l : List (List Rl)) (A : Option Addr) (n c : Nat) (A' : Option Addr) (n' c' : Nat) (w : World) (B B' : Nat) (hn : n ≤ 8796093022208) (h : Rule w B A n l) (h' : Rule w B' A' n' l) :
    Calls Try.prog 10 #[.slice A n c, .slice A' n' c'] w fun e w' => e = .returned (.bool true) ∧ Below w.heap.size w w' := by
  obtain rfl : n' = n := by rw [← h.len, ← h'.len]
  refine calls_of_wpQ Try.func10 rfl ?_
  intro Q hQ
  simp only [Try.ntmps10, List.size_toArray, List.length_cons, List.length_nil, Nat.reduceAdd, Nat.reduceSub, Array.replicate_succ, Array.replicate_zero, List.push_toArray, List.append_toArray, List.nil_append, List.cons_append]
  go_wp2
  go_loopw [17] (fun iv wr => ∃ k : Nat, iv = .int .i64 k ∧ k ≤ n' ∧ Hid (Below w.heap.size w wr)) (fun iv _ => n' - (intOf iv).toNat)
  case atStart => exact ⟨0, rfl, Nat.zero_le _, Below.refl _ _⟩
  case round =>
    obtain ⟨k, rfl, hk, hb⟩ := hrel
    by_cases hlt : k < n'
    · obtain ⟨b, o, r, v, rfl, hbl, hd, c0, hsub, hvn⟩ := h.at_ hlt
      obtain ⟨b', o', r', v', rfl, hbl', hd', c0', hsub', hvn'⟩ := h'.at_ hlt
      obtain rfl := head_same hd.out hd'.out
      obtain ⟨A2, n2, c2⟩ := v
      obtain ⟨A2', n2', c2'⟩ := v'
      dsimp only at *
      obtain rfl : n2' = n2 := by rw [← hsub.len, ← hsub'.len]
      unfold slV at c0 c0'
      dsimp only at *
      have d0 := (hb.out.cell (p := ⟨b, o + k, none⟩) hbl).trans c0
      have d0' := (hb.out.cell (p := ⟨b', o' + k, none⟩) hbl').trans c0'
      have k0 : (0 : Int) ≤ k := by omega
      have k1 : (k : Int) < n' := by omega
      replace hd := hid_mk hd
      replace hd' := hid_mk hd'
      go_wp2
      go_quiet (fail)
      all_goals go_wp2
      all_goals
        generalize hwq : wr.drewN _ = wq
        have hbq : Hid (Below w.heap.size w wq) := by rw [Hid, ← hwq]; exact below_drewN hb.out _
        clear hwq d0 d0'
        go_loopw [36] (fun iv wr => ∃ j : Nat, iv = .int .i64 j ∧ j ≤ n2' ∧ Hid (Below w.heap.size w wr)) (fun iv _ => n2' - (intOf iv).toNat)
        case atStart => exact ⟨0, rfl, Nat.zero_le _, hbq⟩
        case round =>
          clear hbq
          obtain ⟨j, rfl, hj, hb2⟩ := hrel
          have d0 := (hb2.out.cell (p := ⟨b, o + k, none⟩) hbl).trans c0
          have d0' := (hb2.out.cell (p := ⟨b', o' + k, none⟩) hbl').trans c0'
          by_cases hlj : j < n2'
          · obtain ⟨b3, o3, x, v3, rfl, hbl3, hd3, e0, e1, e2, hsp, hvn3⟩ := hsub.at_ hlj
            obtain ⟨b3', o3', x', v3', rfl, hbl3', hd3', e0', e1', e2', hsp', hvn3'⟩ := hsub'.at_ hlj
            obtain rfl := head_same hd3.out hd3'.out
            obtain ⟨A3, n3, c3⟩ := v3
            obtain ⟨A3', n3', c3'⟩ := v3'
            obtain ⟨mod, nt, sps⟩ := x
            dsimp only at *
            obtain rfl : n3' = n3 := by rw [← hsp.len, ← hsp'.len]
            unfold slV at e2 e2'
            dsimp only at *
            have j0 : (0 : Int) ≤ j := by omega
            have j1 : (j : Int) < n2' := by omega
            have g0 := (hb2.out.cell (p := ⟨b3, o3 + j * 3, none⟩) hbl3).trans e0
            have g1 := (hb2.out.cell (p := ⟨b3, o3 + j * 3 + 1, none⟩) hbl3).trans e1
            have g2 := (hb2.out.cell (p := ⟨b3, o3 + j * 3 + 2, none⟩) hbl3).trans e2
            have g0' := (hb2.out.cell (p := ⟨b3', o3' + j * 3, none⟩) hbl3').trans e0'
            have g1' := (hb2.out.cell (p := ⟨b3', o3' + j * 3 + 1, none⟩) hbl3').trans e1'
            have g2' := (hb2.out.cell (p := ⟨b3', o3' + j * 3 + 2, none⟩) hbl3').trans e2'
            have hz := hb2.out.size
            have z1 : b < wr.heap.size := by omega
            have z2 : b' < wr.heap.size := by omega
            have z3 : b3 < wr.heap.size := by omega
            have z4 : b3' < wr.heap.size := by omega
            have hbx : Hid (Below w.heap.size w ((wr.alloc (.cells #[.int .i64 mod, .bool nt, .slice A3 n3' c3] 42)).alloc (.cells #[.int .i64 mod, .bool nt, .slice A3' n3' c3'] 42))) := (hb2.out.alloc hz _).alloc (by rw [World.size_alloc]; omega) _
            have hX : Hid (Blk ((wr.alloc (.cells #[.int .i64 mod, .bool nt, .slice A3 n3' c3] 42)).alloc (.cells #[.int .i64 mod, .bool nt, .slice A3' n3' c3'] 42)) wr.heap.size 42 #[.int .i64 mod, .bool nt, .slice A3 n3' c3]) := (Blk.new wr 42 _).alloc _
            have hY : Hid (Blk ((wr.alloc (.cells #[.int .i64 mod, .bool nt, .slice A3 n3' c3] 42)).alloc (.cells #[.int .i64 mod, .bool nt, .slice A3' n3' c3'] 42)) (wr.heap.size + 1) 42 #[.int .i64 mod, .bool nt, .slice A3' n3' c3']) := by
              have h1 := Blk.new (wr.alloc (.cells #[.int .i64 mod, .bool nt, .slice A3 n3' c3] 42)) 42 #[.int .i64 mod, .bool nt, .slice A3' n3' c3']
              rw [World.size_alloc] at h1
              exact h1
            replace hd3 := hid_mk hd3
            replace hd3' := hid_mk hd3'
            go_wp2
            obtain ⟨wo, hwo⟩ : ∃ wo : World, wo = wr := ⟨_, rfl⟩
            subst hwo
            go_loopw [77] (fun iv wr => ∃ q : Nat, iv = .int .i64 q ∧ q ≤ n3' ∧ Hid (Blk wr wo.heap.size 42 #[.int .i64 mod, .bool nt, .slice A3 n3' c3]) ∧ Hid (Blk wr (wo.heap.size + 1) 42 #[.int .i64 mod, .bool nt, .slice A3' n3' c3']) ∧ Hid (Below w.heap.size w wr)) (fun iv _ => n3' - (intOf iv).toNat)
            case atStart => exact ⟨0, rfl, Nat.zero_le _, hX, hY, hbx⟩
            case round =>
              clear hX hY hbx d0 d0' g0 g1 g2 g0' g1' g2' hz z1 z2 z3 z4
              obtain ⟨q, rfl, hq, hX, hY, hb4⟩ := hrel
              obtain ⟨p0, p1, p2, p3⟩ := blk3 hX.out
              obtain ⟨s0, s1, s2, s3⟩ := blk3 hY.out
              by_cases hlq : q < n3'
              · obtain ⟨b5, o5, sp, rfl, hbl5, hd5, m0, m1⟩ := hsp.at_ hlq
                obtain ⟨b5', o5', sp', rfl, hbl5', hd5', m0', m1'⟩ := hsp'.at_ hlq
                obtain rfl := head_same hd5.out hd5'.out
                obtain ⟨lo, hi⟩ := sp
                dsimp only at *
                have q0 : (0 : Int) ≤ q := by omega
                have q1 : (q : Int) < n3' := by omega
                have r0 := (hb4.out.cell (p := ⟨b5, o5 + q * 2, none⟩) hbl5).trans m0
                have r1 := (hb4.out.cell (p := ⟨b5, o5 + q * 2 + 1, none⟩) hbl5).trans m1
                have r0' := (hb4.out.cell (p := ⟨b5', o5' + q * 2, none⟩) hbl5').trans m0'
                have r1' := (hb4.out.cell (p := ⟨b5', o5' + q * 2 + 1, none⟩) hbl5').trans m1'
                have hneq := fun w => run_neq_span lo hi w
                replace hd5 := hid_mk hd5
                replace hd5' := hid_mk hd5'
                go_wp2
                go_quiet (fail)
                all_goals go_wp2
                all_goals
                  go_roundw
                  case rel => exact ⟨q + 1, by go_num, by omega, hX, hY, below_drewN hb4.out _⟩
                  case measure => simp [intOf]; omega
              · go_wp2
                go_roundw
                case rel => exact ⟨j + 1, by go_num, by omega, hb4⟩
                case measure => simp [intOf]; omega
          · go_wp2
            go_roundw
            case rel => exact ⟨k + 1, by go_num, by omega, hb2⟩
            case measure => simp [intOf]; omega
    · go_wp2
      refine ends_ret hQ (results_tmp rfl _ _ _) rfl ?_
      exact ⟨rfl, hb.out⟩
set_option maxHeartbeats 1600000 in
theorem LawReads_any (s : ByteArray) (w : World) : Calls Try.prog 3 #[.string s] w fun e w' => e = .returned (.bool true) ∧ Below w.heap.size w w' := by
  obtain ⟨R, hR⟩ : ∃ R, parseP s.data.toList = R := ⟨_, rfl⟩
  have hR2 : Hid (parseF s.data.toList = R) := by rw [Hid, parse_same, hR]
  replace hR := hid_mk hR
  refine calls_of_wpQ Try.func3 rfl ?_
  intro Q hQ
  simp only [Try.ntmps3, List.size_toArray, List.length_cons, List.length_nil, Nat.reduceAdd, Nat.reduceSub, Array.replicate_succ, Array.replicate_zero, List.push_toArray, List.append_toArray, List.nil_append, List.cons_append]
  go_wp2_with fail
  refine (Parse_any s w).mono ?_
  rw [hR2.out]
  rintro e w1 ⟨A1, n1, c1, rfl, hu1, hn1, hb⟩
  have q1 := hid_mk hb
  replace hu1 := hid_mk hu1
  clear hb
  go_wp2_with fail
  refine (RParse_any s _).mono ?_
  rw [hR.out]
  rintro e w2 ⟨A2, n2, c2, rfl, hu2, hn2, hb⟩
  have q2 := hid_mk (after (w := w) hb q1.out).1
  replace hu1 := hid_mk (hu1.out.to hb)
  replace hu2 := hid_mk hu2
  clear hb
  go_wp2_with fail
  refine (alive_any _).mono ?_
  rintro e w3 ⟨rfl, hb⟩
  have q3 := hid_mk (after (w := w) hb q2.out).1
  replace hu1 := hid_mk (hu1.out.to hb)
  replace hu2 := hid_mk (hu2.out.to hb)
  clear hb
  go_wp2_with fail
  refine (Like_same R.1 A1 n1 c1 A2 n2 c2 _ 0 0 hn1 hu1.out hu2.out).mono ?_
  rintro e w4 ⟨rfl, hb⟩
  have q4 := hid_mk (after (w := w) hb q3.out).1
  clear hb
  go_wp2
  refine ends_ret hQ (results_tmp rfl _ _ _) rfl ?_
  exact ⟨ret_bool (by simp), q4.out⟩
theorem LawReads_walk {w : World} (s : ByteArray) (_hs : s.size ≤ 140737488351232) :
    Calls Try.prog 3 #[.string s] w fun e w' => e = .returned (.bool true) ∧ Below w.heap.size w w' := LawReads_any s w
end Go.Proofs.Ytfafinnklniniaa
