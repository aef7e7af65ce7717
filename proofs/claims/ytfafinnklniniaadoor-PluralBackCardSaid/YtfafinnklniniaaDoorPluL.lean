/-
  WHAT IS PROVED HERE: two rules that are the same are alike (the reference's Like). No condition.
-/
import Derived.Test.YtfafinnklniniaaDoorPlu8
import Derived.Test.YtfafinnklniniaaDoorPlu9
namespace Go.Proofs.YtfafinnklniniaaDoor
open Go.RowKit

theorem spanUnder : Tryd.prog.underlying 45 = some (.struct (Tryd.prog.fieldsOf 45)) := by kernel_rfl
theorem spanHeld : Tryd.prog.stoodInHeld 45 = false := by kernel_rfl
theorem run_neq_span (a b : Int) (w : World) : (binOp .neq 45 (.agg #[.int .i64 a, .int .i64 b]) (.agg #[.int .i64 a, .int .i64 b])).run Tryd.prog w = .ok (.bool false) w := by
  rw [run_neq_struct, run_equalIn_struct w 9999 45 _ _ spanUnder spanHeld]
  simp [go_sem, Tryd.underlying45]
theorem head_same {α : Type} {l : List α} {k : Nat} {x y : α} (h : l.drop k = x :: l.drop (k + 1)) (h' : l.drop k = y :: l.drop (k + 1)) : x = y := by
  rw [h] at h'
  injection h'
set_option maxRecDepth 100000 in
set_option maxHeartbeats 6400000 in
theorem Like_same (l : List (List Rl)) (A : Option Addr) (n c : Nat) (A' : Option Addr) (n' c' : Nat) (w : World) (B B' : Nat) (hn : n ≤ 8796093022208) (h : Rule w B A n l) (h' : Rule w B' A' n' l) :
    Calls Tryd.prog 11 #[.slice A n c, .slice A' n' c'] w fun e w' => e = .returned (.bool true) ∧ Below w.heap.size w w' := by
  obtain rfl : n' = n := by rw [← h.len, ← h'.len]
  refine calls_of_wpQ Tryd.func11 rfl ?_
  intro Q hQ
  simp only [Tryd.ntmps11, List.size_toArray, List.length_cons, List.length_nil, Nat.reduceAdd, Nat.reduceSub, Array.replicate_succ, Array.replicate_zero, List.push_toArray, List.append_toArray, List.nil_append, List.cons_append]
  go_wp2
  go_loopw [17] (fun iv wr => ∃ k : Nat, iv = .int .i64 k ∧ k ≤ n' ∧ Hid (Below w.heap.size w wr)) (fun iv _ => n' - (intOf iv).toNat)
  case atStart => exact ⟨0, rfl, Nat.zero_le _, Below.refl _ _⟩
  case round =>
    obtain ⟨k, rfl, hk, hb⟩ := hrel
    by_cases hlt : k < n'
    · obtain ⟨b, o, r, v, rfl, hbl, hd, c0, hsub, hvn⟩ := h.at_ hlt
      obtain ⟨b', o', r', v', rfl, hbl', hd', c0', hsub', hvn'⟩ := h'.at_ hlt
      obtain rfl := head_same hd.out hd'.out
      obtain ⟨A2, n2, c2⟩ := v
      obtain ⟨A2', n2', c2'⟩ := v'
      dsimp only at *
      obtain rfl : n2' = n2 := by rw [← hsub.len, ← hsub'.len]
      unfold slV at c0 c0'
      dsimp only at *
      have d0 := (hb.out.cell (p := ⟨b, o + k, none⟩) hbl).trans c0
      have d0' := (hb.out.cell (p := ⟨b', o' + k, none⟩) hbl').trans c0'
      have k0 : (0 : Int) ≤ k := by omega
      have k1 : (k : Int) < n' := by omega
      replace hd := hid_mk hd
      replace hd' := hid_mk hd'
      go_wp2
      go_quiet (fail)
      all_goals go_wp2
      all_goals
        generalize hwq : wr.drewN _ = wq
        have hbq : Hid (Below w.heap.size w wq) := by rw [Hid, ← hwq]; exact below_drewN hb.out _
        clear hwq d0 d0'
        go_loopw [36] (fun iv wr => ∃ j : Nat, iv = .int .i64 j ∧ j ≤ n2' ∧ Hid (Below w.heap.size w wr)) (fun iv _ => n2' - (intOf iv).toNat)
        case atStart => exact ⟨0, rfl, Nat.zero_le _, hbq⟩
        case round =>
          clear hbq
          obtain ⟨j, rfl, hj, hb2⟩ := hrel
          have d0 := (hb2.out.cell (p := ⟨b, o + k, none⟩) hbl).trans c0
          have d0' := (hb2.out.cell (p := ⟨b', o' + k, none⟩) hbl').trans c0'
          by_cases hlj : j < n2'
          · obtain ⟨b3, o3, x, v3, rfl, hbl3, hd3, e0, e1, e2, hsp, hvn3⟩ := hsub.at_ hlj
            obtain ⟨b3', o3', x', v3', rfl, hbl3', hd3', e0', e1', e2', hsp', hvn3'⟩ := hsub'.at_ hlj
            obtain rfl := head_same hd3.out hd3'.out
            obtain ⟨A3, n3, c3⟩ := v3
            obtain ⟨A3', n3', c3'⟩ := v3'
            obtain ⟨mod, nt, sps⟩ := x
            dsimp only at *
            obtain rfl : n3' = n3 := by rw [← hsp.len, ← hsp'.len]
            unfold slV at e2 e2'
            dsimp only at *
            have j0 : (0 : Int) ≤ j := by omega
            have j1 : (j : Int) < n2' := by omega
            have g0 := (hb2.out.cell (p := ⟨b3, o3 + j * 3, none⟩) hbl3).trans e0
            have g1 := (hb2.out.cell (p := ⟨b3, o3 + j * 3 + 1, none⟩) hbl3).trans e1
            have g2 := (hb2.out.cell (p := ⟨b3, o3 + j * 3 + 2, none⟩) hbl3).trans e2
            have g0' := (hb2.out.cell (p := ⟨b3', o3' + j * 3, none⟩) hbl3').trans e0'
            have g1' := (hb2.out.cell (p := ⟨b3', o3' + j * 3 + 1, none⟩) hbl3').trans e1'
            have g2' := (hb2.out.cell (p := ⟨b3', o3' + j * 3 + 2, none⟩) hbl3').trans e2'
            have hz := hb2.out.size
            have z1 : b < wr.heap.size := by omega
            have z2 : b' < wr.heap.size := by omega
            have z3 : b3 < wr.heap.size := by omega
            have z4 : b3' < wr.heap.size := by omega
            have hbx : Hid (Below w.heap.size w ((wr.alloc (.cells #[.int .i64 mod, .bool nt, .slice A3 n3' c3] 37)).alloc (.cells #[.int .i64 mod, .bool nt, .slice A3' n3' c3'] 37))) := (hb2.out.alloc hz _).alloc (by rw [World.size_alloc]; omega) _
            have hX : Hid (Blk ((wr.alloc (.cells #[.int .i64 mod, .bool nt, .slice A3 n3' c3] 37)).alloc (.cells #[.int .i64 mod, .bool nt, .slice A3' n3' c3'] 37)) wr.heap.size 37 #[.int .i64 mod, .bool nt, .slice A3 n3' c3]) := (Blk.new wr 37 _).alloc _
            have hY : Hid (Blk ((wr.alloc (.cells #[.int .i64 mod, .bool nt, .slice A3 n3' c3] 37)).alloc (.cells #[.int .i64 mod, .bool nt, .slice A3' n3' c3'] 37)) (wr.heap.size + 1) 37 #[.int .i64 mod, .bool nt, .slice A3' n3' c3']) := by
              have h1 := Blk.new (wr.alloc (.cells #[.int .i64 mod, .bool nt, .slice A3 n3' c3] 37)) 37 #[.int .i64 mod, .bool nt, .slice A3' n3' c3']
              rw [World.size_alloc] at h1
              exact h1
            replace hd3 := hid_mk hd3
            replace hd3' := hid_mk hd3'
            go_wp2
            obtain ⟨wo, hwo⟩ : ∃ wo : World, wo = wr := ⟨_, rfl⟩
            subst hwo
            go_loopw [77] (fun iv wr => ∃ q : Nat, iv = .int .i64 q ∧ q ≤ n3' ∧ Hid (Blk wr wo.heap.size 37 #[.int .i64 mod, .bool nt, .slice A3 n3' c3]) ∧ Hid (Blk wr (wo.heap.size + 1) 37 #[.int .i64 mod, .bool nt, .slice A3' n3' c3']) ∧ Hid (Below w.heap.size w wr)) (fun iv _ => n3' - (intOf iv).toNat)
            case atStart => exact ⟨0, rfl, Nat.zero_le _, hX, hY, hbx⟩
            case round =>
              clear hX hY hbx d0 d0' g0 g1 g2 g0' g1' g2' hz z1 z2 z3 z4
              obtain ⟨q, rfl, hq, hX, hY, hb4⟩ := hrel
              obtain ⟨p0, p1, p2, p3⟩ := blk3 hX.out
              obtain ⟨s0, s1, s2, s3⟩ := blk3 hY.out
              by_cases hlq : q < n3'
              · obtain ⟨b5, o5, sp, rfl, hbl5, hd5, m0, m1⟩ := hsp.at_ hlq
                obtain ⟨b5', o5', sp', rfl, hbl5', hd5', m0', m1'⟩ := hsp'.at_ hlq
                obtain rfl := head_same hd5.out hd5'.out
                obtain ⟨lo, hi⟩ := sp
                dsimp only at *
                have q0 : (0 : Int) ≤ q := by omega
                have q1 : (q : Int) < n3' := by omega
                have r0 := (hb4.out.cell (p := ⟨b5, o5 + q * 2, none⟩) hbl5).trans m0
                have r1 := (hb4.out.cell (p := ⟨b5, o5 + q * 2 + 1, none⟩) hbl5).trans m1
                have r0' := (hb4.out.cell (p := ⟨b5', o5' + q * 2, none⟩) hbl5').trans m0'
                have r1' := (hb4.out.cell (p := ⟨b5', o5' + q * 2 + 1, none⟩) hbl5').trans m1'
                have hneq := fun w => run_neq_span lo hi w
                replace hd5 := hid_mk hd5
                replace hd5' := hid_mk hd5'
                go_wp2
                go_quiet (fail)
                all_goals go_wp2
                all_goals
                  go_roundw
                  case rel => exact ⟨q + 1, by go_num, by omega, hX, hY, below_drewN hb4.out _⟩
                  case measure => simp [intOf]; omega
              · go_wp2
                go_roundw
                case rel => exact ⟨j + 1, by go_num, by omega, hb4⟩
                case measure => simp [intOf]; omega
          · go_wp2
            go_roundw
            case rel => exact ⟨k + 1, by go_num, by omega, hb2⟩
            case measure => simp [intOf]; omega
    · go_wp2
      refine ends_ret hQ (results_tmp rfl _ _ _) rfl ?_
      exact ⟨rfl, hb.out⟩
end Go.Proofs.YtfafinnklniniaaDoor
