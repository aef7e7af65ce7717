/-
  WHAT IS PROVED HERE: what the reference's Many, Deep, shaped and Right hand back at a value of at most 4000 values, 30 within one another, whose parts are of their kinds. Conditions: those.
  WHAT IS PROVED HERE: what the reference's Right, Bytes and Put hand back of a value: its bytes, if they are at most 131072. Conditions: the value's parts are of their kinds, it has at most 4000 values, 30 within one another; the library's table stands.
-/
import Derived.Test.YtncdjmpdbinanaaGreatDoorZGVl0
import Derived.Test.YtncdjmpdbinanaaGreatDoorZGJrn
import Derived.Test.YtncdjmpdbinanaaGreatDoorZGVal
import Derived.Test.YtncdjmpdbinanaaGreatDoorZGOwn
import Derived.Lib.BufferRead
import Derived.Lib.SlBytesConst
namespace Go.Proofs.YtncdjmpdbinanaaGreatDoor
open Go.RowKit

set_option maxRecDepth 100000 in
set_option maxHeartbeats 1600000 in
theorem Many_any : ∀ (d : Nat) (v : Vl) (cnt : Nat) (enc : List UInt8) (most : Int) (B : Nat) (w : World), VOk w (Lows B) d v cnt enc → B ≤ w.heap.size → cnt < most → most ≤ 4001 →
    Calls Tryz.prog 192 #[valV v, .int .i64 most] w fun e w' => e = .returned (.int .i64 cnt) ∧ Below w.heap.size w w'
  | 0, _, _, _, _, _, _, h => h.elim
  | d + 1, v, cnt, enc, most, B, w, h => by
    intro b0 m0 m1
    obtain ⟨xs, hrow, hm4, hxs, rfl, _⟩ := h.parts
    have hcl := hid_mk (fun k => cntN_le (xs := xs) k)
    clear h
    obtain ⟨vk, vn, vs, vA, vm, vc⟩ := v
    dsimp only at hrow hm4
    unfold valV
    dsimp only
    have q0 : Below w.heap.size w (w.alloc (.cells #[.int .i64 vk, .int .i64 vn, .string vs, .slice vA vm vc] 163)) := by go_grown
    refine calls_of_wpQ Tryz.func192 rfl ?_
    intro Q hQ
    simp only [Tryz.ntmps192, List.size_toArray, List.length_cons, List.length_nil, Nat.reduceAdd, Nat.reduceSub, Array.replicate_succ, Array.replicate_zero, List.push_toArray, List.append_toArray, List.nil_append, List.cons_append]
    go_wp2
    go_loopw [5, 11] (fun n i wr => ∃ (k : Nat), k ≤ vm ∧ i = .int .i64 k ∧ n = .int .i64 (1 + (cntN (xs.take k) : Nat)) ∧ Below w.heap.size w wr) (fun _ i _ => vm - (intOf i).toNat)
    case atStart => exact ⟨0, Nat.zero_le _, rfl, rfl, q0⟩
    case round =>
      obtain ⟨k, hk, rfl, rfl, hb⟩ := hrel
      by_cases hlt : k < vm
      · have hbB := hb.mono b0
        obtain ⟨b, o, x, rfl, hS, hbb, hmem, hd, c0, c1, c2, c3⟩ := (hrow.to hb.size (fun b h1 _ => hbB.block b h1) (fun _ h _ => h)).at_ hlt
        have hx := hid_mk ((hxs x hmem).below hbB)
        have hnx := hid_mk (cntN_take hd.out)
        have hle := hid_mk (hcl.out (k + 1))
        have hxp := (hxs x hmem).cnt_pos
        obtain ⟨xv, xc, xe⟩ := x
        obtain ⟨xk, xn, xs', xA, xm, xcp⟩ := xv
        dsimp only at c0 c1 c2 c3 hnx hxp
        obtain ⟨c, hc⟩ : ∃ c, cntN (xs.take k) = c := ⟨_, rfl⟩
        have hle2 : c + xc ≤ cntN xs := by have := hle.out; rw [hnx.out, hc] at this; exact this
        rw [hc] at hnx
        rw [hc]
        replace hc := hid_mk hc
        have hbs := hb.size
        have hge : ¬ most ≤ 1 + (c : Int) := by omega
        have hw1 : IntKind.i64.wrap (most - (1 + (c : Int))) = most - (1 + (c : Int)) := IntWalk.i64_in _ (by omega)
        have hw2 : IntKind.i64.wrap (1 + (c : Int) + (xc : Int)) = 1 + (c : Int) + (xc : Int) := IntWalk.i64_in _ (by omega)
        go_wp2_with (go_at_call 192; refine (Many_any d ⟨xk, xn, xs', xA, xm, xcp⟩ xc xe (most - (1 + (c : Int))) B _ (hx.out.below (Below.mono (show Below wr.heap.size wr _ from by go_grown) (by omega))) (by simp; omega) (by omega) (by omega)).mono ?_; rintro e w1 ⟨rfl, hb1⟩; have q1 := (after (w := w) hb1 (by go_grown)).1; clear hb1)
        go_roundw
        case rel => exact ⟨k + 1, by omega, by go_num, by rw [hnx.out]; congr 1; push_cast; omega, q1⟩
        case measure => simp [intOf]; omega
      · have hke := hid_mk (show xs.take k = xs from List.take_of_length_le (by have := hrow.len; omega))
        rw [hke.out]
        have hng : ¬ most < 1 + (cntN xs : Int) := by omega
        go_wp2
        refine ends_ret hQ (results_tmp rfl _ _ _) rfl ?_
        exact ⟨ret_int (by push_cast; rfl), hb⟩
set_option maxRecDepth 100000 in
set_option maxHeartbeats 1600000 in
theorem Deep_any : ∀ (d : Nat) (v : Vl) (cnt : Nat) (enc : List UInt8) (most : Int) (B : Nat) (w : World), VOk w (Lows B) d v cnt enc → B ≤ w.heap.size → d < most → most ≤ 31 →
    Calls Tryz.prog 193 #[valV v, .int .i64 most] w fun e w' => (∃ r : Int, e = .returned (.int .i64 r) ∧ 1 ≤ r ∧ r ≤ d) ∧ Below w.heap.size w w'
  | 0, _, _, _, _, _, _, h => h.elim
  | d + 1, v, cnt, enc, most, B, w, h => by
    intro b0 m0 m1
    obtain ⟨xs, hrow, hm4, hxs, rfl, _⟩ := h.parts
    clear h
    obtain ⟨vk, vn, vs, vA, vm, vc⟩ := v
    dsimp only at hrow hm4
    unfold valV
    dsimp only
    have q0 : Below w.heap.size w (w.alloc (.cells #[.int .i64 vk, .int .i64 vn, .string vs, .slice vA vm vc] 163)) := by go_grown
    have m2 : ¬ most ≤ 1 := by omega
    have hw1 : IntKind.i64.wrap (most - 1) = most - 1 := IntWalk.i64_in _ (by omega)
    refine calls_of_wpQ Tryz.func193 rfl ?_
    intro Q hQ
    simp only [Tryz.ntmps193, List.size_toArray, List.length_cons, List.length_nil, Nat.reduceAdd, Nat.reduceSub, Array.replicate_succ, Array.replicate_zero, List.push_toArray, List.append_toArray, List.nil_append, List.cons_append]
    go_wp2
    go_loopw [5, 15] (fun n i wr => ∃ (k : Nat) (m : Int), k ≤ vm ∧ i = .int .i64 k ∧ n = .int .i64 m ∧ 0 ≤ m ∧ m ≤ d ∧ Below w.heap.size w wr) (fun _ i _ => vm - (intOf i).toNat)
    case atStart => exact ⟨0, 0, Nat.zero_le _, rfl, rfl, by omega, by omega, q0⟩
    case round =>
      obtain ⟨k, m, hk, rfl, rfl, n0, n1, hb⟩ := hrel
      by_cases hlt : k < vm
      · have hbB := hb.mono b0
        obtain ⟨b, o, x, rfl, hS, hbb, hmem, hd, c0, c1, c2, c3⟩ := (hrow.to hb.size (fun b h1 _ => hbB.block b h1) (fun _ h _ => h)).at_ hlt
        have hx := hid_mk ((hxs x hmem).below hbB)
        obtain ⟨xv, xc, xe⟩ := x
        obtain ⟨xk, xn, xs', xA, xm, xcp⟩ := xv
        dsimp only at c0 c1 c2 c3
        have hbs := hb.size
        go_wp2_with (go_at_call 193; refine (Deep_any d ⟨xk, xn, xs', xA, xm, xcp⟩ xc xe (most - 1) B _ (hx.out.below (Below.mono (show Below wr.heap.size wr _ from by go_grown) (by omega))) (by simp; omega) (by omega) (by omega)).mono ?_; rintro e w1 ⟨⟨r, rfl, r0, r1⟩, hb1⟩; have q1 := (after (w := w) hb1 (by go_grown)).1; clear hb1; have z1 : ¬ most - 1 ≤ r := (by omega); have z2 : ¬ most - 1 ≤ m := (by omega))
        all_goals
          go_roundw
          case rel => exact ⟨k + 1, _, by omega, by go_num, rfl, by omega, by omega, q1⟩
          case measure => simp [intOf]; omega
      · have hw3 : IntKind.i64.wrap (m + 1) = m + 1 := IntWalk.i64_in _ (by omega)
        go_wp2
        refine ends_ret hQ (results_tmp rfl _ _ _) rfl ?_
        exact ⟨⟨m + 1, rfl, by omega, by omega⟩, hb⟩
set_option maxRecDepth 100000 in
set_option maxHeartbeats 1600000 in
theorem rshaped_any : ∀ (d : Nat) (v : Vl) (cnt : Nat) (enc : List UInt8) (B : Nat) (w : World), VOk w (Lows B) d v cnt enc → B ≤ w.heap.size →
    Calls Tryz.prog 194 #[valV v] w fun e w' => e = .returned (.bool true) ∧ Below w.heap.size w w'
  | 0, _, _, _, _, _, h => h.elim
  | d + 1, v, cnt, enc, B, w, h => by
    intro b0
    obtain ⟨xs, hrow, hm4, hxs, rfl, hsh⟩ := h.parts
    clear h
    obtain ⟨vk, vn, vs, vA, vm, vc⟩ := v
    dsimp only at hrow hm4 hsh
    unfold valV
    dsimp only
    have q0 : Below w.heap.size w (w.alloc (.cells #[.int .i64 vk, .int .i64 vn, .string vs, .slice vA vm vc] 163)) := by go_grown
    rcases hsh with ⟨rfl, rfl, rfl⟩ | ⟨rfl, rfl, rfl⟩ | ⟨rfl, rfl, rfl⟩
    · refine calls_of_wpQ Tryz.func194 rfl ?_
      intro Q hQ
      simp only [Tryz.ntmps194, List.size_toArray, List.length_cons, List.length_nil, Nat.reduceAdd, Nat.reduceSub, Array.replicate_succ, Array.replicate_zero, List.push_toArray, List.append_toArray, List.nil_append, List.cons_append]
      go_wp2
      refine ends_ret hQ (results_tmp rfl _ _ _) rfl ?_
      exact ⟨rfl, q0⟩
    · refine calls_of_wpQ Tryz.func194 rfl ?_
      intro Q hQ
      simp only [Tryz.ntmps194, List.size_toArray, List.length_cons, List.length_nil, Nat.reduceAdd, Nat.reduceSub, Array.replicate_succ, Array.replicate_zero, List.push_toArray, List.append_toArray, List.nil_append, List.cons_append]
      go_wp2
      refine ends_ret hQ (results_tmp rfl _ _ _) rfl ?_
      exact ⟨rfl, q0⟩
    · have hX0 := hid_mk (Blk.new w 163 #[.int .i64 3, .int .i64 0, .string ⟨#[]⟩, .slice vA vm vc])
      refine calls_of_wpQ Tryz.func194 rfl ?_
      intro Q hQ
      simp only [Tryz.ntmps194, List.size_toArray, List.length_cons, List.length_nil, Nat.reduceAdd, Nat.reduceSub, Array.replicate_succ, Array.replicate_zero, List.push_toArray, List.append_toArray, List.nil_append, List.cons_append]
      go_wp2
      go_loopw [34] (fun i wr => ∃ (k : Nat), k ≤ vm ∧ i = .int .i64 k ∧ Below w.heap.size w wr ∧ Hid (Blk wr w.heap.size 163 #[.int .i64 3, .int .i64 0, .string ⟨#[]⟩, .slice vA vm vc])) (fun i _ => vm - (intOf i).toNat)
      case atStart => exact ⟨0, Nat.zero_le _, rfl, q0, hX0⟩
      case round =>
        obtain ⟨k, hk, rfl, hb, hX⟩ := hrel
        by_cases hlt : k < vm
        · have hbB := hb.mono b0
          obtain ⟨b, o, x, rfl, hS, hbb, hmem, hd, c0, c1, c2, c3⟩ := (hrow.to hb.size (fun b h1 _ => hbB.block b h1) (fun _ h _ => h)).at_ hlt
          have hx := hid_mk ((hxs x hmem).below hbB)
          obtain ⟨xv, xc, xe⟩ := x
          obtain ⟨xk, xn, xs', xA, xm, xcp⟩ := xv
          dsimp only at c0 c1 c2 c3
          have hbs := hb.size
          go_wp2_with (go_at_call 194; refine (rshaped_any d ⟨xk, xn, xs', xA, xm, xcp⟩ xc xe B _ (hx.out.below (Below.mono (show Below wr.heap.size wr _ from by go_grown) (by omega))) (by simp; omega)).mono ?_; rintro e w1 ⟨rfl, hb1⟩; have q1 := (after (w := w) hb1 (by go_grown)).1; have hX1 := hid_mk (hX.out.keep (after hb1 (by go_grown)).1); clear hb1)
          go_roundw
          case rel => exact ⟨k + 1, by omega, by go_num, q1, hX1⟩
          case measure => simp [intOf]; omega
        · have x1 := hX.out.cell 1
          have x2 := hX.out.cell 2
          have xl := hX.out.lt
          change _ = some (Value.int .i64 0) at x1
          change _ = some (Value.string ⟨#[]⟩) at x2
          go_wp2
          refine ends_ret hQ (results_tmp rfl _ _ _) rfl ?_
          exact ⟨rfl, hb⟩
end Go.Proofs.YtncdjmpdbinanaaGreatDoor
namespace Go.Proofs.YtncdjmpdbinanaaGreatDoor
open Go.RowKit

set_option maxRecDepth 100000 in
set_option maxHeartbeats 1600000 in
theorem RRight_any (d : Nat) (v : Vl) (cnt : Nat) (enc : List UInt8) (w : World) (h : VOk w (Lows w.heap.size) d v cnt enc) (hc : cnt ≤ 4000) (hd : d ≤ 30) :
    Calls Tryz.prog 178 #[valV v] w fun e w' => e = .returned (.int .i64 0) ∧ Below w.heap.size w w' := by
  obtain ⟨vk, vn, vs, vA, vm, vc⟩ := v
  have hX0 := hid_mk (Blk.new w 163 #[.int .i64 vk, .int .i64 vn, .string vs, .slice vA vm vc])
  have h0 : Hid (∀ w', Below w.heap.size w w' → VOk w' (Lows w.heap.size) d ⟨vk, vn, vs, vA, vm, vc⟩ cnt enc) := fun w' hb => h.below hb
  have hng : ¬ (4000 : Int) < (cnt : Int) := by omega
  unfold valV
  dsimp only
  refine calls_of_wpQ Tryz.func178 rfl ?_
  intro Q hQ
  simp only [Tryz.ntmps178, List.size_toArray, List.length_cons, List.length_nil, Nat.reduceAdd, Nat.reduceSub, Array.replicate_succ, Array.replicate_zero, List.push_toArray, List.append_toArray, List.nil_append, List.cons_append]
  go_wp2_with (first | (go_at_call 192; refine (Many_any d ⟨vk, vn, vs, vA, vm, vc⟩ cnt enc 4001 w.heap.size _ (h0.out _ (by go_grown)) (by simp) (by omega) (by omega)).mono ?_; rintro e w1 ⟨rfl, hb1⟩; have q1 := (after (w := w) hb1 (by go_grown)).1; have hX1 := hid_mk (hX0.out.keep hb1); obtain ⟨xl, x0, x1, x2, x3⟩ := blk4 hX1.out; clear hb1) | (go_at_call 193; refine (Deep_any d ⟨vk, vn, vs, vA, vm, vc⟩ cnt enc 31 w.heap.size _ (h0.out _ (by go_grown)) (by have := q1.size; omega) (by omega) (by omega)).mono ?_; rintro e w2 ⟨⟨r, rfl, r0, r1⟩, hb1⟩; have q2 := (after (w := w) hb1 (by go_grown)).1; have hX2 := hid_mk (hX1.out.keep hb1); clear xl x0 x1 x2 x3; obtain ⟨xl, x0, x1, x2, x3⟩ := blk4 hX2.out; clear hb1; have z1 : ¬ (30 : Int) < r := (by omega)) | (go_at_call 194; refine (rshaped_any d ⟨vk, vn, vs, vA, vm, vc⟩ cnt enc w.heap.size _ (h0.out _ (by go_grown)) (by have := q2.size; omega)).mono ?_; rintro e w3 ⟨rfl, hb1⟩; have q3 := (after (w := w) hb1 (by go_grown)).1; clear hb1))
  refine ends_ret hQ (results_tmp rfl _ _ _) rfl ?_
  exact ⟨rfl, q3⟩
theorem conv_bytes {w : World} {B n c : Nat} {A : Option Addr} {l : List UInt8} (h : Reads w B 5 1 A n (Lib.byteCells l)) : (convert 177 9 (.slice A n c)).run Tryz.prog w = .ok (.string ⟨l.toArray⟩) w := by
  have hl : l.length = n := by have := h.1; rw [Lib.byteCells_length] at this; omega
  subst hl
  rcases Nat.eq_zero_or_pos l.length with h0 | h0
  · have hl : l = [] := List.eq_nil_of_length_eq_zero h0
    subst hl
    rcases A with _ | a
    · exact Lib.run_convert_nil_bytes w 177 9 5 c Tryz.underlying177 Tryz.underlying5 Tryz.underlying9
    · exact run_convert_bytes_back w 177 9 5 a c [] Tryz.underlying177 Tryz.underlying5 Tryz.underlying9 (fun j hj => by simp at hj)
  · obtain ⟨b, o, rfl, _, _, hc⟩ := h.2 h0
    exact run_convert_bytes_back w 177 9 5 ⟨b, o, none⟩ c l Tryz.underlying177 Tryz.underlying5 Tryz.underlying9 (fun j hj => by rw [add_plain]; exact hc j _ (by simp [Lib.byteCells, hj]))
theorem own_mark (w : World) (B : Nat) (hB : B ≤ w.heap.size) (c : Int) : OwnM (w.alloc (.cells #[.int .u8 c] 5 (1, 2))) B 5 (.slice (some ⟨w.heap.size, 0, none⟩) 1 1) 1 [.int .u8 c] :=
  ⟨rfl, .inr ⟨w.heap.size, 1, #[.int .u8 c], (1, 2), rfl, hB, heap_alloc_new w _, .inr (Nat.le_refl _), Nat.le_refl _, by unfold maxLen; omega, rfl, rfl⟩⟩
theorem sc_bc (l : List UInt8) : Lib.strCells ⟨l.toArray⟩ = Lib.byteCells l := rfl
set_option maxRecDepth 100000 in
set_option maxHeartbeats 3200000 in
theorem Bytes_any : ∀ (d : Nat) (v : Vl) (cnt : Nat) (enc : List UInt8) (B : Nat) (w : World), VOk w (Lows B) d v cnt enc → B ≤ w.heap.size → TabB B w → enc.length ≤ 70368744177664 →
    Calls Tryz.prog 179 #[valV v] w fun e w' => e = .returned (.string ⟨enc.toArray⟩) ∧ Below w.heap.size w w'
  | 0, _, _, _, _, _, h => h.elim
  | d + 1, v, cnt, enc, B, w, h => by
    intro b3 ht hlen
    have htw : TabB w.heap.size w := ht.more b3
    rcases h with ⟨n, rfl, n0, n1, rfl, rfl⟩ | ⟨s, rfl, hs, rfl, rfl⟩ | ⟨A, m, cp, xs, rfl, hm4, hrow, hxs, rfl, rfl⟩
    · have hl := it_size n
      obtain ⟨c1, hc1⟩ : ∃ c, (⟨#[105]⟩ : ByteArray) ++ itB n = c := ⟨_, rfl⟩
      obtain ⟨c2, hc2⟩ : ∃ c, c1 ++ (⟨#[101]⟩ : ByteArray) = c := ⟨_, rfl⟩
      have hd2 : c2.data.toList = 105 :: (Lib.itoa n ++ [101]) := by rw [← hc2, ← hc1, dl_app, dl_app]; rfl
      have k1 := cat_to hc1 (by have : (⟨#[105]⟩ : ByteArray).size = 1 := rfl; simp at hlen; omega)
      have k2 := cat_to hc2 (by rw [← hc1, ByteArray.size_append]; have : (⟨#[105]⟩ : ByteArray).size = 1 := rfl; have : (⟨#[101]⟩ : ByteArray).size = 1 := rfl; simp at hlen; omega)
      replace hc1 := hid_mk hc1
      replace hc2 := hid_mk hc2
      replace hl := hid_mk hl
      replace hd2 := hid_mk hd2
      unfold valV numV
      dsimp only
      refine calls_of_wpQ Tryz.func179 rfl ?_
      intro Q hQ
      simp only [Tryz.ntmps179, List.size_toArray, List.length_cons, List.length_nil, Nat.reduceAdd, Nat.reduceSub, Array.replicate_succ, Array.replicate_zero, List.push_toArray, List.append_toArray, List.nil_append, List.cons_append]
      go_wp2_with (go_at_call 171; refine (FormatInt_any n _ n0 n1 (htw _ (by go_grown))).mono ?_; rintro e w1 ⟨rfl, hb1⟩; have q1 := (after (w := w) hb1 (by go_grown)).1; clear hb1)
      refine ends_ret hQ (results_tmp rfl _ _ _) rfl ?_
      exact ⟨by rw [← hd2.out]; rfl, q1⟩
    · have hl := it_size s.size
      obtain ⟨c1, hc1⟩ : ∃ c, itB s.size ++ (⟨#[58]⟩ : ByteArray) = c := ⟨_, rfl⟩
      obtain ⟨c2, hc2⟩ : ∃ c, c1 ++ s = c := ⟨_, rfl⟩
      have hd2 : c2.data.toList = Lib.itoa s.size ++ 58 :: s.data.toList := by rw [← hc2, ← hc1, dl_app, dl_app, List.append_assoc]; rfl
      have hsz2 : c2.size = (Lib.itoa s.size ++ 58 :: s.data.toList : List UInt8).length := by rw [← hd2]; rfl
      rw [← hsz2, ← hc2, ← hc1, ByteArray.size_append, ByteArray.size_append] at hlen
      have k1 := cat_to hc1 (by have : (⟨#[58]⟩ : ByteArray).size = 1 := rfl; omega)
      have k2 := cat_to hc2 (by rw [← hc1, ByteArray.size_append]; omega)
      replace hc1 := hid_mk hc1
      replace hc2 := hid_mk hc2
      replace hl := hid_mk hl
      replace hlen := hid_mk hlen
      replace hd2 := hid_mk hd2
      replace hsz2 := hid_mk hsz2
      unfold valV txtV
      dsimp only
      have hX := hid_mk (Blk.new w 163 #[.int .i64 2, .int .i64 0, .string s, .slice none 0 0])
      have x2 : (w.alloc (.cells #[.int .i64 2, .int .i64 0, .string s, .slice none 0 0] 163)).cell? ⟨w.heap.size, 2, none⟩ = some (.string s) := hX.out.cell 2
      refine calls_of_wpQ Tryz.func179 rfl ?_
      intro Q hQ
      simp only [Tryz.ntmps179, List.size_toArray, List.length_cons, List.length_nil, Nat.reduceAdd, Nat.reduceSub, Array.replicate_succ, Array.replicate_zero, List.push_toArray, List.append_toArray, List.nil_append, List.cons_append]
      go_wp2_with fail
      go_region_held3 (fun w' => w'.cell? ⟨w.heap.size, 2, none⟩ = some (.string s)) ((first | assumption | go_keep)) (first | (go_at_call 172; refine (Itoa_any s.size _ (by omega) (by omega) (htw _ (by go_grown))).mono ?_; rintro e w1 ⟨rfl, hb1⟩; have q1 := (after (w := w) hb1 (by go_grown)).1; have hX1 := hid_mk (hX.out.keep (after hb1 (by go_grown)).1); clear hb1 x2; have x2 := hX1.out.cell 2; have xl := hX1.out.lt; change _ = some (Value.string s) at x2))
      all_goals (try go_wp2)
      all_goals
        refine ends_ret hQ (results_tmp rfl _ _ _) rfl ?_
        exact ⟨by rw [← hd2.out]; rfl, by go_grown⟩
    · have hen : (108 :: (encN xs ++ [101]) : List UInt8).length = (encN xs).length + 2 := by simp
      rw [hen] at hlen
      obtain ⟨i0, hi0, hz0, hz1, hz2⟩ := info_parts byteInfo
      have hel := hid_mk (fun k => encN_le (xs := xs) k)
      have hcv0 : (convert 177 177 (.slice (some ⟨w.heap.size + 1, 0, none⟩) 1 1)).run Tryz.prog ((w.alloc (.cells #[.int .i64 3, .int .i64 0, .string ⟨#[]⟩, .slice A m cp] 163)).alloc (.cells #[.int .u8 108] 5)) = .ok (.slice (some ⟨w.heap.size + 1, 0, none⟩) 1 1) ((w.alloc (.cells #[.int .i64 3, .int .i64 0, .string ⟨#[]⟩, .slice A m cp] 163)).alloc (.cells #[.int .u8 108] 5 (1, 2))) := by
        have := Lib.run_convert_bytes_const (P := Tryz.prog) (w.alloc (.cells #[.int .i64 3, .int .i64 0, .string ⟨#[]⟩, .slice A m cp] 163)) 177 5 #[.int .u8 108] 1 1 Tryz.underlying177 Tryz.underlying5
        simpa using this
      have hown0 : Hid (OwnM ((w.alloc (.cells #[.int .i64 3, .int .i64 0, .string ⟨#[]⟩, .slice A m cp] 163)).alloc (.cells #[.int .u8 108] 5 (1, 2))) w.heap.size 5 (.slice (some ⟨w.heap.size + 1, 0, none⟩) ((encN (xs.take 0)).length + 1) 1) ((encN (xs.take 0)).length + 1) (Lib.byteCells (108 :: encN (xs.take 0)))) := by
        have := own_mark (w.alloc (.cells #[.int .i64 3, .int .i64 0, .string ⟨#[]⟩, .slice A m cp] 163)) w.heap.size (by simp) 108
        rw [World.size_alloc] at this
        exact this
      have q0 : Below w.heap.size w ((w.alloc (.cells #[.int .i64 3, .int .i64 0, .string ⟨#[]⟩, .slice A m cp] 163)).alloc (.cells #[.int .u8 108] 5 (1, 2))) := by go_grown
      unfold valV lstV
      dsimp only
      refine calls_of_wpQ Tryz.func179 rfl ?_
      intro Q hQ
      simp only [Tryz.ntmps179, List.size_toArray, List.length_cons, List.length_nil, Nat.reduceAdd, Nat.reduceSub, Array.replicate_succ, Array.replicate_zero, List.push_toArray, List.append_toArray, List.nil_append, List.cons_append]
      go_wp2
      clear hcv0
      go_loopw [3, 30] (fun b i wr => ∃ (k : Nat) (A : Option Addr) (c : Nat), k ≤ m ∧ i = .int .i64 k ∧ b = .slice A ((encN (xs.take k)).length + 1) c ∧ Below w.heap.size w wr ∧ Hid (OwnM wr w.heap.size 5 (.slice A ((encN (xs.take k)).length + 1) c) ((encN (xs.take k)).length + 1) (Lib.byteCells (108 :: encN (xs.take k))))) (fun _ i _ => m - (intOf i).toNat)
      case atStart => exact ⟨0, _, _, Nat.zero_le _, rfl, rfl, q0, hown0⟩
      case round =>
        obtain ⟨k, Ab, cb, hk, rfl, rfl, hb, own⟩ := hrel
        by_cases hlt : k < m
        · have hbB := hb.mono b3
          obtain ⟨b, o, x, rfl, hS, hbb, hmem, hd, c0, c1, c2, c3⟩ := (hrow.to hb.size (fun b h1 _ => hbB.block b h1) (fun _ h _ => h)).at_ hlt
          have hx := hid_mk ((hxs x hmem).below hbB)
          have hnx := hid_mk (encN_take hd.out)
          have hle := hid_mk (hel.out (k + 1))
          obtain ⟨xv, xc, xe⟩ := x
          obtain ⟨xk, xn, xs', xA, xm, xcp⟩ := xv
          dsimp only at c0 c1 c2 c3 hnx
          obtain ⟨E, hE⟩ : ∃ E, encN (xs.take k) = E := ⟨_, rfl⟩
          have hle2 : E.length + xe.length ≤ (encN xs).length := by have := hle.out; rw [hnx.out, hE, List.length_append] at this; exact this
          rw [hE] at own hnx
          rw [hE]
          replace hE := hid_mk hE
          obtain ⟨N, hN⟩ : ∃ N, E.length + 1 = N := ⟨_, rfl⟩
          rw [hN] at own
          rw [hN]
          have hNE : N ≤ 70368744177664 := by omega
          have hNx : N + xe.length ≤ 140737488355328 := by omega
          replace hN := hid_mk hN
          have hbs := hb.size
          have hbx := ba_size xe
          go_wp2_with (first | (go_at_call 179; refine (Bytes_any d ⟨xk, xn, xs', xA, xm, xcp⟩ xc xe B _ (hx.out.below (Below.mono (show Below wr.heap.size wr _ from by go_grown) (by omega))) (by simp; omega) ((ht.to hbB).to (Below.mono (show Below wr.heap.size wr _ from by go_grown) (by omega))) (by omega)).mono ?_; rintro e w1 ⟨rfl, hb1⟩; have q1 := hid_mk (after (w := w) hb1 (by go_grown)).1; have own1 := hid_mk (OwnM.below (own.out.alloc (.cells #[.int .i64 xk, .int .i64 xn, .string xs', .slice xA xm xcp] 163)) hb1); clear hb1) | (at_builtin; refine wpl_append_str rfl (.tmp 34) (.tmp 36) 177 9 rfl w.heap.size 5 i0 Tryz.underlying177 Tryz.underlying9 hi0 hz0 hz1 hz2 (.slice Ab N cb) N _ rfl own1.out ⟨xe.toArray⟩ rfl (by unfold maxLen; rw [hbx]; omega) (by rw [hbx]; exact hNx) q1.out.size ?_; intro v5 w5 own5 g5; obtain ⟨A5, c5, rfl, hc5, hc6⟩ := own5.slice; have q5 := hid_mk (q1.out.grown g5 q1.out.size (fun g hg => (own1.out.lt g hg).1)); replace own5 := hid_mk own5; clear g5))
          go_roundw
          case rel =>
            have hlx : ((encN (xs.take (k + 1))).length + 1) = N + (⟨xe.toArray⟩ : ByteArray).size := by rw [hnx.out, List.length_append, hbx]; have := hN.out; omega
            refine ⟨k + 1, A5, c5, by omega, by go_num, by rw [hlx, hbx], q5.out, ?_⟩
            rw [hlx]
            have := own5.out
            rw [sc_bc, ← Lib.byteCells_append, List.cons_append, ← hnx.out] at this
            exact this
          case measure => simp [intOf]; omega
        · have hke := hid_mk (show xs.take k = xs from List.take_of_length_le (by have := hrow.len; omega))
          rw [hke.out] at own
          rw [hke.out]
          obtain ⟨N, hN⟩ : ∃ N, (encN xs).length + 1 = N := ⟨_, rfl⟩
          rw [hN] at own
          rw [hN]
          have hNE : N ≤ 70368744177664 := by omega
          replace hN := hid_mk hN
          go_wp2_with (at_builtin; refine wpl_append_new rfl (.tmp 39) (.tmp 40) 177 rfl 5 i0 _ 1 Tryz.underlying177 hi0 hz0 hz1 hz2 rfl hb (.slice Ab N cb) N _ rfl own.out [.int .u8 101] 1 1 rfl _ rfl rfl (by intro u hu; simp at hu; subst hu; rfl) (by omega) (by omega) ?_; intro A5 c5 w5 own5 hc5 q5 st hs5; have hcv := conv_bytes (c := c5) (B := w.heap.size) (l := 108 :: (encN xs ++ [101])) (by have := own5.reads (B' := w.heap.size); rw [show Lib.byteCells (108 :: encN xs) ++ [Value.int .u8 101] = Lib.byteCells (108 :: (encN xs ++ [101])) from by rw [← List.cons_append, Lib.byteCells_append (108 :: encN xs)]; rfl] at this; exact this); replace own5 := hid_mk own5; replace q5 := hid_mk q5; clear st)
          refine ends_ret hQ (results_tmp rfl _ _ _) rfl ?_
          exact ⟨rfl, q5.out⟩
set_option maxRecDepth 100000 in
set_option maxHeartbeats 3200000 in
theorem RPut_any (d : Nat) (v : Vl) (cnt : Nat) (enc : List UInt8) (w : World) (h : VOk w (Lows w.heap.size) d v cnt enc) (hc : cnt ≤ 4000) (hd : d ≤ 30) (ht : Tab w) (hl : enc.length ≤ 70368744177664) :
    Calls Tryz.prog 154 #[valV v] w fun e w' => e = .returned (if enc.length ≤ 131072 then .tuple #[.string ⟨enc.toArray⟩, .int .i64 0] else .tuple #[.string ⟨#[]⟩, .int .i64 2]) ∧ Below w.heap.size w w' := by
  obtain ⟨vk, vn, vs, vA, vm, vc⟩ := v
  obtain ⟨L, hL⟩ : ∃ L, enc.length = L := ⟨_, rfl⟩
  obtain ⟨t, hts⟩ : ∃ t : ByteArray, ⟨enc.toArray⟩ = t := ⟨_, rfl⟩
  have htl : t.size = L := by rw [← hts, ba_size, hL]
  rw [hL] at hl ⊢
  rw [hts]
  have hX0 := hid_mk (Blk.new w 163 #[.int .i64 vk, .int .i64 vn, .string vs, .slice vA vm vc])
  have h0 : Hid (∀ w', Below w.heap.size w w' → VOk w' (Lows w.heap.size) d ⟨vk, vn, vs, vA, vm, vc⟩ cnt enc) := fun w' hb => h.below hb
  have h1 := hid_mk ((h.below (w' := w.alloc (.cells #[.int .i64 vk, .int .i64 vn, .string vs, .slice vA vm vc] 163)) (by go_grown)).to (S' := Lows (w.alloc (.cells #[.int .i64 vk, .int .i64 vn, .string vs, .slice vA vm vc] 163)).heap.size) (w' := w.alloc (.cells #[.int .i64 vk, .int .i64 vn, .string vs, .slice vA vm vc] 163)) (Nat.le_refl _) (fun _ _ _ => rfl) (fun b h hb => by exact hb))
  replace hL := hid_mk hL
  replace hts := hid_mk hts
  unfold valV
  dsimp only
  by_cases hLe : L ≤ 131072
  · have hz : ¬ (131072 : Int) < (t.size : Int) := by rw [htl]; omega
    refine calls_of_wpQ Tryz.func154 rfl ?_
    intro Q hQ
    simp only [Tryz.ntmps154, List.size_toArray, List.length_cons, List.length_nil, Nat.reduceAdd, Nat.reduceSub, Array.replicate_succ, Array.replicate_zero, List.push_toArray, List.append_toArray, List.nil_append, List.cons_append]
    go_wp2_with (first | (go_at_call 178; refine (RRight_any d ⟨vk, vn, vs, vA, vm, vc⟩ cnt enc _ h1.out hc hd).mono ?_; rintro e w1 ⟨rfl, hb1⟩; have q1 := (after (w := w) hb1 (by go_grown)).1; have hX1 := hid_mk (hX0.out.keep hb1); obtain ⟨xl, x0, x1, x2, x3⟩ := blk4 hX1.out; clear hb1) | (go_at_call 179; refine (Bytes_any d ⟨vk, vn, vs, vA, vm, vc⟩ cnt enc w.heap.size _ (h0.out _ (by go_grown)) (by have := q1.size; omega) (ht.bel (by go_grown)) (by rw [hL.out]; omega)).mono ?_; rw [hts.out]; rintro e w2 ⟨rfl, hb1⟩; have q2 := (after (w := w) hb1 (by go_grown)).1; clear hb1))
    refine ends_ret hQ (results_tmp2 rfl _ _ _) rfl ?_
    exact ⟨by rw [if_pos hLe]; rfl, q2⟩
  · have hz : (131072 : Int) < (t.size : Int) := by rw [htl]; omega
    refine calls_of_wpQ Tryz.func154 rfl ?_
    intro Q hQ
    simp only [Tryz.ntmps154, List.size_toArray, List.length_cons, List.length_nil, Nat.reduceAdd, Nat.reduceSub, Array.replicate_succ, Array.replicate_zero, List.push_toArray, List.append_toArray, List.nil_append, List.cons_append]
    go_wp2_with (first | (go_at_call 178; refine (RRight_any d ⟨vk, vn, vs, vA, vm, vc⟩ cnt enc _ h1.out hc hd).mono ?_; rintro e w1 ⟨rfl, hb1⟩; have q1 := (after (w := w) hb1 (by go_grown)).1; have hX1 := hid_mk (hX0.out.keep hb1); obtain ⟨xl, x0, x1, x2, x3⟩ := blk4 hX1.out; clear hb1) | (go_at_call 179; refine (Bytes_any d ⟨vk, vn, vs, vA, vm, vc⟩ cnt enc w.heap.size _ (h0.out _ (by go_grown)) (by have := q1.size; omega) (ht.bel (by go_grown)) (by rw [hL.out]; omega)).mono ?_; rw [hts.out]; rintro e w2 ⟨rfl, hb1⟩; have q2 := (after (w := w) hb1 (by go_grown)).1; clear hb1))
    refine ends_ret hQ (results_tmp2 rfl _ _ _) rfl ?_
    exact ⟨by rw [if_neg hLe]; rfl, q2⟩
end Go.Proofs.YtncdjmpdbinanaaGreatDoor
