/-
  WHAT IS PROVED HERE: what the reference's Many, Deep, shaped and Right hand back at a value of at most 4000 values, 30 within one another, whose parts are of their kinds. Conditions: those.
-/
import Derived.Test.YtnaindoeihnmpaaGreatDoorZGVl0
import Derived.Test.YtnaindoeihnmpaaGreatDoorZGJrn
namespace Go.Proofs.YtnaindoeihnmpaaGreatDoor
open Go.RowKit

set_option maxRecDepth 100000 in
set_option maxHeartbeats 1600000 in
theorem Many_any : ∀ (d : Nat) (v : Vl) (cnt : Nat) (enc : List UInt8) (most : Int) (B : Nat) (w : World), VOk w (Lows B) d v cnt enc → B ≤ w.heap.size → cnt < most → most ≤ 4001 →
    Calls Tryz.prog 98 #[valV v, .int .i64 most] w fun e w' => e = .returned (.int .i64 cnt) ∧ Below w.heap.size w w'
  | 0, _, _, _, _, _, _, h => h.elim
  | d + 1, v, cnt, enc, most, B, w, h => by
    intro b0 m0 m1
    obtain ⟨xs, hrow, hm4, hxs, rfl, _⟩ := h.parts
    have hcl := hid_mk (fun k => cntN_le (xs := xs) k)
    clear h
    obtain ⟨vk, vn, vs, vA, vm, vc⟩ := v
    dsimp only at hrow hm4
    unfold valV
    dsimp only
    have q0 : Below w.heap.size w (w.alloc (.cells #[.int .i64 vk, .int .i64 vn, .string vs, .slice vA vm vc] 101)) := by go_grown
    refine calls_of_wpQ Tryz.func98 rfl ?_
    intro Q hQ
    simp only [Tryz.ntmps98, List.size_toArray, List.length_cons, List.length_nil, Nat.reduceAdd, Nat.reduceSub, Array.replicate_succ, Array.replicate_zero, List.push_toArray, List.append_toArray, List.nil_append, List.cons_append]
    go_wp2
    go_loopw [5, 11] (fun n i wr => ∃ (k : Nat), k ≤ vm ∧ i = .int .i64 k ∧ n = .int .i64 (1 + (cntN (xs.take k) : Nat)) ∧ Below w.heap.size w wr) (fun _ i _ => vm - (intOf i).toNat)
    case atStart => exact ⟨0, Nat.zero_le _, rfl, rfl, q0⟩
    case round =>
      obtain ⟨k, hk, rfl, rfl, hb⟩ := hrel
      by_cases hlt : k < vm
      · have hbB := hb.mono b0
        obtain ⟨b, o, x, rfl, hS, hbb, hmem, hd, c0, c1, c2, c3⟩ := (hrow.to hb.size (fun b h1 _ => hbB.block b h1) (fun _ h _ => h)).at_ hlt
        have hx := hid_mk ((hxs x hmem).below hbB)
        have hnx := hid_mk (cntN_take hd.out)
        have hle := hid_mk (hcl.out (k + 1))
        have hxp := (hxs x hmem).cnt_pos
        obtain ⟨xv, xc, xe⟩ := x
        obtain ⟨xk, xn, xs', xA, xm, xcp⟩ := xv
        dsimp only at c0 c1 c2 c3 hnx hxp
        obtain ⟨c, hc⟩ : ∃ c, cntN (xs.take k) = c := ⟨_, rfl⟩
        have hle2 : c + xc ≤ cntN xs := by have := hle.out; rw [hnx.out, hc] at this; exact this
        rw [hc] at hnx
        rw [hc]
        replace hc := hid_mk hc
        have hbs := hb.size
        have hge : ¬ most ≤ 1 + (c : Int) := by omega
        have hw1 : IntKind.i64.wrap (most - (1 + (c : Int))) = most - (1 + (c : Int)) := IntWalk.i64_in _ (by omega)
        have hw2 : IntKind.i64.wrap (1 + (c : Int) + (xc : Int)) = 1 + (c : Int) + (xc : Int) := IntWalk.i64_in _ (by omega)
        go_wp2_with (go_at_call 98; refine (Many_any d ⟨xk, xn, xs', xA, xm, xcp⟩ xc xe (most - (1 + (c : Int))) B _ (hx.out.below (Below.mono (show Below wr.heap.size wr _ from by go_grown) (by omega))) (by simp; omega) (by omega) (by omega)).mono ?_; rintro e w1 ⟨rfl, hb1⟩; have q1 := (after (w := w) hb1 (by go_grown)).1; clear hb1)
        go_roundw
        case rel => exact ⟨k + 1, by omega, by go_num, by rw [hnx.out]; congr 1; push_cast; omega, q1⟩
        case measure => simp [intOf]; omega
      · have hke := hid_mk (show xs.take k = xs from List.take_of_length_le (by have := hrow.len; omega))
        rw [hke.out]
        have hng : ¬ most < 1 + (cntN xs : Int) := by omega
        go_wp2
        refine ends_ret hQ (results_tmp rfl _ _ _) rfl ?_
        exact ⟨ret_int (by push_cast; rfl), hb⟩
set_option maxRecDepth 100000 in
set_option maxHeartbeats 1600000 in
theorem Deep_any : ∀ (d : Nat) (v : Vl) (cnt : Nat) (enc : List UInt8) (most : Int) (B : Nat) (w : World), VOk w (Lows B) d v cnt enc → B ≤ w.heap.size → d < most → most ≤ 31 →
    Calls Tryz.prog 99 #[valV v, .int .i64 most] w fun e w' => (∃ r : Int, e = .returned (.int .i64 r) ∧ 1 ≤ r ∧ r ≤ d) ∧ Below w.heap.size w w'
  | 0, _, _, _, _, _, _, h => h.elim
  | d + 1, v, cnt, enc, most, B, w, h => by
    intro b0 m0 m1
    obtain ⟨xs, hrow, hm4, hxs, rfl, _⟩ := h.parts
    clear h
    obtain ⟨vk, vn, vs, vA, vm, vc⟩ := v
    dsimp only at hrow hm4
    unfold valV
    dsimp only
    have q0 : Below w.heap.size w (w.alloc (.cells #[.int .i64 vk, .int .i64 vn, .string vs, .slice vA vm vc] 101)) := by go_grown
    have m2 : ¬ most ≤ 1 := by omega
    have hw1 : IntKind.i64.wrap (most - 1) = most - 1 := IntWalk.i64_in _ (by omega)
    refine calls_of_wpQ Tryz.func99 rfl ?_
    intro Q hQ
    simp only [Tryz.ntmps99, List.size_toArray, List.length_cons, List.length_nil, Nat.reduceAdd, Nat.reduceSub, Array.replicate_succ, Array.replicate_zero, List.push_toArray, List.append_toArray, List.nil_append, List.cons_append]
    go_wp2
    go_loopw [5, 15] (fun n i wr => ∃ (k : Nat) (m : Int), k ≤ vm ∧ i = .int .i64 k ∧ n = .int .i64 m ∧ 0 ≤ m ∧ m ≤ d ∧ Below w.heap.size w wr) (fun _ i _ => vm - (intOf i).toNat)
    case atStart => exact ⟨0, 0, Nat.zero_le _, rfl, rfl, by omega, by omega, q0⟩
    case round =>
      obtain ⟨k, m, hk, rfl, rfl, n0, n1, hb⟩ := hrel
      by_cases hlt : k < vm
      · have hbB := hb.mono b0
        obtain ⟨b, o, x, rfl, hS, hbb, hmem, hd, c0, c1, c2, c3⟩ := (hrow.to hb.size (fun b h1 _ => hbB.block b h1) (fun _ h _ => h)).at_ hlt
        have hx := hid_mk ((hxs x hmem).below hbB)
        obtain ⟨xv, xc, xe⟩ := x
        obtain ⟨xk, xn, xs', xA, xm, xcp⟩ := xv
        dsimp only at c0 c1 c2 c3
        have hbs := hb.size
        go_wp2_with (go_at_call 99; refine (Deep_any d ⟨xk, xn, xs', xA, xm, xcp⟩ xc xe (most - 1) B _ (hx.out.below (Below.mono (show Below wr.heap.size wr _ from by go_grown) (by omega))) (by simp; omega) (by omega) (by omega)).mono ?_; rintro e w1 ⟨⟨r, rfl, r0, r1⟩, hb1⟩; have q1 := (after (w := w) hb1 (by go_grown)).1; clear hb1; have z1 : ¬ most - 1 ≤ r := (by omega); have z2 : ¬ most - 1 ≤ m := (by omega))
        all_goals
          go_roundw
          case rel => exact ⟨k + 1, _, by omega, by go_num, rfl, by omega, by omega, q1⟩
          case measure => simp [intOf]; omega
      · have hw3 : IntKind.i64.wrap (m + 1) = m + 1 := IntWalk.i64_in _ (by omega)
        go_wp2
        refine ends_ret hQ (results_tmp rfl _ _ _) rfl ?_
        exact ⟨⟨m + 1, rfl, by omega, by omega⟩, hb⟩
set_option maxRecDepth 100000 in
set_option maxHeartbeats 1600000 in
theorem rshaped_any : ∀ (d : Nat) (v : Vl) (cnt : Nat) (enc : List UInt8) (B : Nat) (w : World), VOk w (Lows B) d v cnt enc → B ≤ w.heap.size →
    Calls Tryz.prog 100 #[valV v] w fun e w' => e = .returned (.bool true) ∧ Below w.heap.size w w'
  | 0, _, _, _, _, _, h => h.elim
  | d + 1, v, cnt, enc, B, w, h => by
    intro b0
    obtain ⟨xs, hrow, hm4, hxs, rfl, hsh⟩ := h.parts
    clear h
    obtain ⟨vk, vn, vs, vA, vm, vc⟩ := v
    dsimp only at hrow hm4 hsh
    unfold valV
    dsimp only
    have q0 : Below w.heap.size w (w.alloc (.cells #[.int .i64 vk, .int .i64 vn, .string vs, .slice vA vm vc] 101)) := by go_grown
    rcases hsh with ⟨rfl, rfl, rfl⟩ | ⟨rfl, rfl, rfl⟩ | ⟨rfl, rfl, rfl⟩
    · refine calls_of_wpQ Tryz.func100 rfl ?_
      intro Q hQ
      simp only [Tryz.ntmps100, List.size_toArray, List.length_cons, List.length_nil, Nat.reduceAdd, Nat.reduceSub, Array.replicate_succ, Array.replicate_zero, List.push_toArray, List.append_toArray, List.nil_append, List.cons_append]
      go_wp2
      refine ends_ret hQ (results_tmp rfl _ _ _) rfl ?_
      exact ⟨rfl, q0⟩
    · refine calls_of_wpQ Tryz.func100 rfl ?_
      intro Q hQ
      simp only [Tryz.ntmps100, List.size_toArray, List.length_cons, List.length_nil, Nat.reduceAdd, Nat.reduceSub, Array.replicate_succ, Array.replicate_zero, List.push_toArray, List.append_toArray, List.nil_append, List.cons_append]
      go_wp2
      refine ends_ret hQ (results_tmp rfl _ _ _) rfl ?_
      exact ⟨rfl, q0⟩
    · have hX0 := hid_mk (Blk.new w 101 #[.int .i64 3, .int .i64 0, .string ⟨#[]⟩, .slice vA vm vc])
      refine calls_of_wpQ Tryz.func100 rfl ?_
      intro Q hQ
      simp only [Tryz.ntmps100, List.size_toArray, List.length_cons, List.length_nil, Nat.reduceAdd, Nat.reduceSub, Array.replicate_succ, Array.replicate_zero, List.push_toArray, List.append_toArray, List.nil_append, List.cons_append]
      go_wp2
      go_loopw [34] (fun i wr => ∃ (k : Nat), k ≤ vm ∧ i = .int .i64 k ∧ Below w.heap.size w wr ∧ Hid (Blk wr w.heap.size 101 #[.int .i64 3, .int .i64 0, .string ⟨#[]⟩, .slice vA vm vc])) (fun i _ => vm - (intOf i).toNat)
      case atStart => exact ⟨0, Nat.zero_le _, rfl, q0, hX0⟩
      case round =>
        obtain ⟨k, hk, rfl, hb, hX⟩ := hrel
        by_cases hlt : k < vm
        · have hbB := hb.mono b0
          obtain ⟨b, o, x, rfl, hS, hbb, hmem, hd, c0, c1, c2, c3⟩ := (hrow.to hb.size (fun b h1 _ => hbB.block b h1) (fun _ h _ => h)).at_ hlt
          have hx := hid_mk ((hxs x hmem).below hbB)
          obtain ⟨xv, xc, xe⟩ := x
          obtain ⟨xk, xn, xs', xA, xm, xcp⟩ := xv
          dsimp only at c0 c1 c2 c3
          have hbs := hb.size
          go_wp2_with (go_at_call 100; refine (rshaped_any d ⟨xk, xn, xs', xA, xm, xcp⟩ xc xe B _ (hx.out.below (Below.mono (show Below wr.heap.size wr _ from by go_grown) (by omega))) (by simp; omega)).mono ?_; rintro e w1 ⟨rfl, hb1⟩; have q1 := (after (w := w) hb1 (by go_grown)).1; have hX1 := hid_mk (hX.out.keep (after hb1 (by go_grown)).1); clear hb1)
          go_roundw
          case rel => exact ⟨k + 1, by omega, by go_num, q1, hX1⟩
          case measure => simp [intOf]; omega
        · have x1 := hX.out.cell 1
          have x2 := hX.out.cell 2
          have xl := hX.out.lt
          change _ = some (Value.int .i64 0) at x1
          change _ = some (Value.string ⟨#[]⟩) at x2
          go_wp2
          refine ends_ret hQ (results_tmp rfl _ _ _) rfl ?_
          exact ⟨rfl, hb⟩
end Go.Proofs.YtnaindoeihnmpaaGreatDoor
