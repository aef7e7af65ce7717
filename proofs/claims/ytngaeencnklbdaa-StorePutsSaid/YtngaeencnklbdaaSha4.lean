/-
  WHAT IS PROVED HERE: what digest's Sum hands back. Conditions: texts of at most 2^40 bytes.
-/
import Derived.Test.YtngaeencnklbdaaSha3
import Derived.Lib.BufferRead
namespace Go.Proofs.Ytngaeencnklbdaa
open Go.RowKit

theorem List.toArray_nil_ : ([] : List Value).toArray = #[] := rfl
theorem be4_cells (x : Int) (h0 : 0 ≤ x) (h1 : x < 4294967296) : (Lib.byteCells (be4 x)).toArray = #[.int .u8 (x / 16777216), .int .u8 (x / 65536 % 256), .int .u8 (x / 256 % 256), .int .u8 (x % 256)] := by
  unfold be4 Lib.byteCells
  simp [UInt8.toNat_ofNat']
  omega
theorem idx8_0 (a b c d e f g h : Int) (w : World) : (Instr.index 65 (.agg #[.int .u32 a, .int .u32 b, .int .u32 c, .int .u32 d, .int .u32 e, .int .u32 f, .int .u32 g, .int .u32 h]) (.int .i64 0)).run Try.prog w = .ok (.int .u32 a) w := by kernel_rfl
theorem idx8_1 (a b c d e f g h : Int) (w : World) : (Instr.index 65 (.agg #[.int .u32 a, .int .u32 b, .int .u32 c, .int .u32 d, .int .u32 e, .int .u32 f, .int .u32 g, .int .u32 h]) (.int .i64 1)).run Try.prog w = .ok (.int .u32 b) w := by kernel_rfl
theorem idx8_2 (a b c d e f g h : Int) (w : World) : (Instr.index 65 (.agg #[.int .u32 a, .int .u32 b, .int .u32 c, .int .u32 d, .int .u32 e, .int .u32 f, .int .u32 g, .int .u32 h]) (.int .i64 2)).run Try.prog w = .ok (.int .u32 c) w := by kernel_rfl
theorem idx8_3 (a b c d e f g h : Int) (w : World) : (Instr.index 65 (.agg #[.int .u32 a, .int .u32 b, .int .u32 c, .int .u32 d, .int .u32 e, .int .u32 f, .int .u32 g, .int .u32 h]) (.int .i64 3)).run Try.prog w = .ok (.int .u32 d) w := by kernel_rfl
theorem idx8_4 (a b c d e f g h : Int) (w : World) : (Instr.index 65 (.agg #[.int .u32 a, .int .u32 b, .int .u32 c, .int .u32 d, .int .u32 e, .int .u32 f, .int .u32 g, .int .u32 h]) (.int .i64 4)).run Try.prog w = .ok (.int .u32 e) w := by kernel_rfl
theorem idx8_5 (a b c d e f g h : Int) (w : World) : (Instr.index 65 (.agg #[.int .u32 a, .int .u32 b, .int .u32 c, .int .u32 d, .int .u32 e, .int .u32 f, .int .u32 g, .int .u32 h]) (.int .i64 5)).run Try.prog w = .ok (.int .u32 f) w := by kernel_rfl
theorem idx8_6 (a b c d e f g h : Int) (w : World) : (Instr.index 65 (.agg #[.int .u32 a, .int .u32 b, .int .u32 c, .int .u32 d, .int .u32 e, .int .u32 f, .int .u32 g, .int .u32 h]) (.int .i64 6)).run Try.prog w = .ok (.int .u32 g) w := by kernel_rfl
theorem idx8_7 (a b c d e f g h : Int) (w : World) : (Instr.index 65 (.agg #[.int .u32 a, .int .u32 b, .int .u32 c, .int .u32 d, .int .u32 e, .int .u32 f, .int .u32 g, .int .u32 h]) (.int .i64 7)).run Try.prog w = .ok (.int .u32 h) w := by kernel_rfl
theorem conv_row {w : World} {B n c : Nat} {A : Option Addr} {l : List UInt8} (h : Reads w B 5 1 A n (Lib.byteCells l)) : (convert 67 9 (.slice A n c)).run Try.prog w = .ok (.string ⟨l.toArray⟩) w := by
  have hl : l.length = n := by have := h.1; rw [bc_len] at this; omega
  subst hl
  rcases Nat.eq_zero_or_pos l.length with h0 | h0
  · have hl : l = [] := List.eq_nil_of_length_eq_zero h0
    subst hl
    rcases A with _ | a
    · exact Lib.run_convert_nil_bytes w 67 9 5 c Try.underlying67 Try.underlying5 Try.underlying9
    · exact run_convert_bytes_back w 67 9 5 a c [] Try.underlying67 Try.underlying5 Try.underlying9 (fun j hj => by simp at hj)
  · obtain ⟨b, o, rfl, _, _, hc⟩ := h.2 h0
    exact run_convert_bytes_back w 67 9 5 ⟨b, o, none⟩ c l Try.underlying67 Try.underlying5 Try.underlying9 (fun j hj => by rw [add_plain]; exact hc j _ (by simp [Lib.byteCells, hj]))
theorem Sum_nil (w : World) : Calls Try.prog 41 #[.pointer none] w fun e w' => e = .returned (.string ⟨#[]⟩) ∧ w = w' := by
  refine calls_of_wpQ Try.func41 rfl ?_
  intro Q hQ
  simp only [Try.ntmps41, List.size_toArray, List.length_cons, List.length_nil, Nat.reduceAdd, Nat.reduceSub, Array.replicate_succ, Array.replicate_zero, List.push_toArray, List.append_toArray, List.nil_append, List.cons_append]
  go_wp2
  refine ends_ret hQ (results_tmp rfl _ _ _) rfl ?_
  exact ⟨rfl, rfl⟩
set_option maxRecDepth 100000 in
set_option maxHeartbeats 3200000 in
theorem Sum_any (B g : Nat) (v : Value) (t : List UInt8) (w : World) (h : HashIs w B g v t) (ht : t.length ≤ 1099511627776) :
    Calls Try.prog 41 #[.pointer (some ⟨g, 0, none⟩)] w fun e w' => e = .returned (.string ⟨(digL t).toArray⟩) ∧ Below w.heap.size w w' := by
  obtain ⟨i0, hi0, hz0, hz1, hz2⟩ := info_parts byteI
  obtain ⟨hBg, hg, hown⟩ := h
  obtain ⟨n0, hn0⟩ : ∃ n, t.length % 64 = n := ⟨_, rfl⟩
  rw [hn0] at hown
  have hn0b : n0 < 64 := by omega
  replace hn0 := hid_mk hn0
  obtain ⟨A0, cap0, rfl, hc01, hc02⟩ := own_slice hown
  have e0 : w.cell? ⟨g, 0, none⟩ = some (.int .u32 (hw t).a) := hg.cell 0
  have e1 : w.cell? ⟨g, 1, none⟩ = some (.int .u32 (hw t).b) := hg.cell 1
  have e2 : w.cell? ⟨g, 2, none⟩ = some (.int .u32 (hw t).c) := hg.cell 2
  have e3 : w.cell? ⟨g, 3, none⟩ = some (.int .u32 (hw t).d) := hg.cell 3
  have e4 : w.cell? ⟨g, 4, none⟩ = some (.int .u32 (hw t).e) := hg.cell 4
  have e5 : w.cell? ⟨g, 5, none⟩ = some (.int .u32 (hw t).f) := hg.cell 5
  have e6 : w.cell? ⟨g, 6, none⟩ = some (.int .u32 (hw t).g) := hg.cell 6
  have e7 : w.cell? ⟨g, 7, none⟩ = some (.int .u32 (hw t).h) := hg.cell 7
  have c8 : w.cell? ⟨g, 8, none⟩ = some (.slice A0 n0 cap0) := hg.cell 8
  have hgl := hg.lt
  have hR1 := hid_mk ((Reads.of_own (B := w.heap.size) hown).to (w' := w.alloc (.cells (s8V (hw t)) 65)) (by go_grown))
  have hV1 := hid_mk (Blk.new w 65 (s8V (hw t)))
  replace hg := hid_mk hg
  refine calls_of_wpQ Try.func41 rfl ?_
  intro Q hQ
  simp only [Try.ntmps41, List.size_toArray, List.length_cons, List.length_nil, Nat.reduceAdd, Nat.reduceSub, Array.replicate_succ, Array.replicate_zero, List.push_toArray, List.append_toArray, List.nil_append, List.cons_append]
  go_wp2_with (first | (at_builtin; refine wpList_append_row rfl (.const (.slice none 0 0)) (.tmp 18) 67 rfl i0 Try.underlying67 hi0 hz0 hz1 hz2 (W := w) (by go_grown) (.slice none 0 0) 0 [] rfl Own.nil w.heap.size A0 n0 cap0 _ rfl hR1.out (by omega) ?_; intro A2 c2 w2 hown2 hc2 q2 st hs2; rw [Nat.zero_add, List.nil_append] at hown2; rw [Nat.zero_add] at hc2 ⊢; replace hV1 := hid_mk (st _ _ _ hV1.out (by decide)); clear st) | (at_builtin; refine wpList_append_bytes rfl (.tmp 20) (.tmp 21) 67 rfl i0 Try.underlying67 hi0 hz0 hz1 hz2 q2 (.slice A2 n0 c2) n0 _ rfl hown2 [128] 1 1 rfl _ rfl rfl (by omega) ?_; intro A3 c3 w3 hown3 hc3 q3 st hs3; replace hV1 := hid_mk (st _ _ _ hV1.out (by decide)); clear st))
  clear e0 e1 e2 e3 e4 e5 e6 e7 c8 hown2 q2 hs2 hs3 hown hc2 hgl
  obtain ⟨z, hz⟩ : ∃ z, padZ t.length = z := ⟨_, rfl⟩
  have hzb : z < 64 := by rw [← hz]; unfold padZ; omega
  have hzv : Hid ((n0 + 1 + z) % 64 = 56) := by rw [Hid, ← hz, ← hn0.out]; unfold padZ; omega
  have hzn : Hid (∀ j, j < z → (n0 + 1 + j) % 64 ≠ 56) := by
    intro j hj
    have := hzv.out
    omega
  replace hz := hid_mk hz
  go_loopw [4] (fun s wr => ∃ (j q c : Nat) (A : Option Addr), s = .slice A q c ∧ q ≤ c ∧ Hid (q = n0 + 1 + j) ∧ j ≤ z ∧ Own w wr (.slice A q c) q (hr t ++ [128] ++ List.replicate j 0) ∧ Hid (Below w.heap.size w wr) ∧ Hid (Blk wr w.heap.size 65 (s8V (hw t)))) (fun s _ => 200 - lenV s)
  case atStart => exact ⟨0, n0 + 1, c3, A3, rfl, hc3, by rw [Hid, Nat.add_zero], Nat.zero_le _, by rw [List.replicate_zero, List.append_nil]; exact hown3, hid_mk q3, hV1⟩
  case round =>
    clear hown3 hV1 q3 hc3
    obtain ⟨j, q, c, A, rfl, hc, hq, hj, hown, hb, hV⟩ := hrel
    have hqv := hq.out
    by_cases hlt : j < z
    · have hm : ((q : Int) % 64 != 56) = true := by
        have := hzn.out j hlt
        simp; omega
      have hqb : q ≤ 130 := by omega
      clear hqv
      go_wp2_with (at_builtin; refine wpList_append_bytes rfl (.tmp 27) (.tmp 28) 67 rfl i0 Try.underlying67 hi0 hz0 hz1 hz2 hb.out (.slice A q c) q _ rfl hown [0] 1 1 rfl _ rfl rfl (by omega) ?_; intro A5 c5 w5 hown5 hc5 q5 st hs5; replace hV := hid_mk (st _ _ _ hV.out (by decide)); clear st)
      go_roundw
      case rel => exact ⟨j + 1, q + 1, c5, A5, rfl, hc5, by rw [Hid, hq.out]; omega, hlt, by rw [List.replicate_succ', ← List.append_assoc]; exact hown5, hid_mk q5, hV⟩
      case measure => simp [lenV]; omega
    · obtain rfl : j = z := by omega
      have hm : ((q : Int) % 64 != 56) = false := by
        have := hzv.out
        simp; omega
      have hqb : q ≤ 130 := by omega
      clear hqv hlt hj
      go_wp2
      go_loopw [4, 5] (fun s i wr => ∃ (k q' c : Nat) (A : Option Addr), s = .slice A q' c ∧ q' ≤ c ∧ Hid (q' = q + k) ∧ k ≤ 8 ∧ i = .int .i64 (7 - (k : Int)) ∧ Own w wr (.slice A q' c) q' (hr t ++ [128] ++ List.replicate j 0 ++ (be8 (8 * t.length)).take k) ∧ Hid (Below w.heap.size w wr) ∧ Hid (Blk wr w.heap.size 65 (s8V (hw t)))) (fun _ i _ => (intOf i + 1).toNat)
      case atStart => exact ⟨0, q, c, A, rfl, hc, by rw [Hid, Nat.add_zero], by omega, rfl, by rw [List.take_zero, List.append_nil]; exact hown, hb, hV⟩
      case round =>
        clear hown hb hV hc hm
        obtain ⟨k, q', c', A', rfl, hc', hq', hk, rfl, hown, hb, hV⟩ := hrel
        have hG := hg.out.keep hb.out
        have c9 : wr.cell? ⟨g, 9, none⟩ = some (.int .u64 (t.length : Int)) := hG.cell 9
        have hgl := hG.lt
        clear hG
        have hqb' : q' ≤ 140 := by have := hq'.out; omega
        by_cases hlt : k < 8
        · rcases (by omega : k = 0 ∨ k = 1 ∨ k = 2 ∨ k = 3 ∨ k = 4 ∨ k = 5 ∨ k = 6 ∨ k = 7) with rfl | rfl | rfl | rfl | rfl | rfl | rfl | rfl
          · clear hlt hk
            go_wp2_with (at_builtin; refine wpList_append_bytes rfl (.tmp 34) (.tmp 44) 67 rfl i0 Try.underlying67 hi0 hz0 hz1 hz2 hb.out (.slice A' q' c') q' _ rfl hown [UInt8.ofNat (8 * t.length / 72057594037927936)] 1 1 rfl _ (by simp [Lib.byteCells, UInt8.toNat_ofNat']; omega) rfl (by omega) ?_; intro A5 c5 w5 hown5 hc5 q5 st hs5; replace hV := hid_mk (st _ _ _ hV.out (by decide)); clear st)
            go_roundw
            case rel => exact ⟨1, q' + 1, c5, A5, rfl, hc5, by rw [Hid, hq'.out], by omega, by rfl, by rw [List.append_assoc] at hown5; exact hown5, hid_mk q5, hV⟩
            case measure => simp [intOf]
          · clear hlt hk
            go_wp2_with (at_builtin; refine wpList_append_bytes rfl (.tmp 34) (.tmp 44) 67 rfl i0 Try.underlying67 hi0 hz0 hz1 hz2 hb.out (.slice A' q' c') q' _ rfl hown [UInt8.ofNat (8 * t.length / 281474976710656)] 1 1 rfl _ (by simp [Lib.byteCells, UInt8.toNat_ofNat']; omega) rfl (by omega) ?_; intro A5 c5 w5 hown5 hc5 q5 st hs5; replace hV := hid_mk (st _ _ _ hV.out (by decide)); clear st)
            go_roundw
            case rel => exact ⟨2, q' + 1, c5, A5, rfl, hc5, by rw [Hid, hq'.out], by omega, by rfl, by rw [List.append_assoc] at hown5; exact hown5, hid_mk q5, hV⟩
            case measure => simp [intOf]
          · clear hlt hk
            go_wp2_with (at_builtin; refine wpList_append_bytes rfl (.tmp 34) (.tmp 44) 67 rfl i0 Try.underlying67 hi0 hz0 hz1 hz2 hb.out (.slice A' q' c') q' _ rfl hown [UInt8.ofNat (8 * t.length / 1099511627776)] 1 1 rfl _ (by simp [Lib.byteCells, UInt8.toNat_ofNat']; omega) rfl (by omega) ?_; intro A5 c5 w5 hown5 hc5 q5 st hs5; replace hV := hid_mk (st _ _ _ hV.out (by decide)); clear st)
            go_roundw
            case rel => exact ⟨3, q' + 1, c5, A5, rfl, hc5, by rw [Hid, hq'.out], by omega, by rfl, by rw [List.append_assoc] at hown5; exact hown5, hid_mk q5, hV⟩
            case measure => simp [intOf]
          · clear hlt hk
            go_wp2_with (at_builtin; refine wpList_append_bytes rfl (.tmp 34) (.tmp 44) 67 rfl i0 Try.underlying67 hi0 hz0 hz1 hz2 hb.out (.slice A' q' c') q' _ rfl hown [UInt8.ofNat (8 * t.length / 4294967296)] 1 1 rfl _ (by simp [Lib.byteCells, UInt8.toNat_ofNat']; omega) rfl (by omega) ?_; intro A5 c5 w5 hown5 hc5 q5 st hs5; replace hV := hid_mk (st _ _ _ hV.out (by decide)); clear st)
            go_roundw
            case rel => exact ⟨4, q' + 1, c5, A5, rfl, hc5, by rw [Hid, hq'.out], by omega, by rfl, by rw [List.append_assoc] at hown5; exact hown5, hid_mk q5, hV⟩
            case measure => simp [intOf]
          · clear hlt hk
            go_wp2_with (at_builtin; refine wpList_append_bytes rfl (.tmp 34) (.tmp 44) 67 rfl i0 Try.underlying67 hi0 hz0 hz1 hz2 hb.out (.slice A' q' c') q' _ rfl hown [UInt8.ofNat (8 * t.length / 16777216)] 1 1 rfl _ (by simp [Lib.byteCells, UInt8.toNat_ofNat']; omega) rfl (by omega) ?_; intro A5 c5 w5 hown5 hc5 q5 st hs5; replace hV := hid_mk (st _ _ _ hV.out (by decide)); clear st)
            go_roundw
            case rel => exact ⟨5, q' + 1, c5, A5, rfl, hc5, by rw [Hid, hq'.out], by omega, by rfl, by rw [List.append_assoc] at hown5; exact hown5, hid_mk q5, hV⟩
            case measure => simp [intOf]
          · clear hlt hk
            go_wp2_with (at_builtin; refine wpList_append_bytes rfl (.tmp 34) (.tmp 44) 67 rfl i0 Try.underlying67 hi0 hz0 hz1 hz2 hb.out (.slice A' q' c') q' _ rfl hown [UInt8.ofNat (8 * t.length / 65536)] 1 1 rfl _ (by simp [Lib.byteCells, UInt8.toNat_ofNat']; omega) rfl (by omega) ?_; intro A5 c5 w5 hown5 hc5 q5 st hs5; replace hV := hid_mk (st _ _ _ hV.out (by decide)); clear st)
            go_roundw
            case rel => exact ⟨6, q' + 1, c5, A5, rfl, hc5, by rw [Hid, hq'.out], by omega, by rfl, by rw [List.append_assoc] at hown5; exact hown5, hid_mk q5, hV⟩
            case measure => simp [intOf]
          · clear hlt hk
            go_wp2_with (at_builtin; refine wpList_append_bytes rfl (.tmp 34) (.tmp 44) 67 rfl i0 Try.underlying67 hi0 hz0 hz1 hz2 hb.out (.slice A' q' c') q' _ rfl hown [UInt8.ofNat (8 * t.length / 256)] 1 1 rfl _ (by simp [Lib.byteCells, UInt8.toNat_ofNat']; omega) rfl (by omega) ?_; intro A5 c5 w5 hown5 hc5 q5 st hs5; replace hV := hid_mk (st _ _ _ hV.out (by decide)); clear st)
            go_roundw
            case rel => exact ⟨7, q' + 1, c5, A5, rfl, hc5, by rw [Hid, hq'.out], by omega, by rfl, by rw [List.append_assoc] at hown5; exact hown5, hid_mk q5, hV⟩
            case measure => simp [intOf]
          · clear hlt hk
            go_wp2_with (at_builtin; refine wpList_append_bytes rfl (.tmp 34) (.tmp 44) 67 rfl i0 Try.underlying67 hi0 hz0 hz1 hz2 hb.out (.slice A' q' c') q' _ rfl hown [UInt8.ofNat (8 * t.length)] 1 1 rfl _ (by simp [Lib.byteCells, UInt8.toNat_ofNat']; omega) rfl (by omega) ?_; intro A5 c5 w5 hown5 hc5 q5 st hs5; replace hV := hid_mk (st _ _ _ hV.out (by decide)); clear st)
            go_roundw
            case rel => exact ⟨8, q' + 1, c5, A5, rfl, hc5, by rw [Hid, hq'.out], by omega, by rfl, by rw [List.append_assoc] at hown5; exact hown5, hid_mk q5, hV⟩
            case measure => simp [intOf]
        · obtain rfl : k = 8 := by omega
          have hLv : hr t ++ [128] ++ List.replicate j 0 ++ (be8 (8 * t.length)).take 8 = hr t ++ padL t.length := by
            unfold padL
            rw [hz.out]
            simp only [List.append_assoc]
            rfl
          rw [hLv] at hown
          have hql : Hid ((hr t ++ padL t.length).length = q') := by rw [Hid]; exact hown.len
          have hq64 : Hid (q' % 64 = 0) := by
            have h1 := hql.out
            have h2 := padL_full t.length
            rw [List.length_append, hr_len] at h1
            rw [Hid]; omega
          have hR := hid_mk (hown.reads (B := w.heap.size))
          rw [show hr t ++ padL t.length = (hr t ++ padL t.length).drop (64 * 0) from by rw [Nat.mul_zero, List.drop_zero]] at hR
          clear hlt hk hown hLv c9 hgl
          rw [show (7 : Int) - ((8 : Nat) : Int) = -1 from rfl]
          go_wp2
          go_loopw [4] (fun s wr => ∃ (m q c : Nat) (A : Option Addr), s = .slice A q c ∧ q ≤ c ∧ Hid (q + 64 * m = q') ∧ Hid (Reads wr w.heap.size 5 1 A q (Lib.byteCells ((hr t ++ padL t.length).drop (64 * m)))) ∧ Hid (Below w.heap.size w wr) ∧ Hid (Blk wr w.heap.size 65 (s8V (eatN (hw t) (hr t ++ padL t.length) m)))) (fun s _ => lenV s)
          case atStart => exact ⟨0, q', c', A', rfl, hc', rfl, hR, hb, hV⟩
          case round =>
            clear hR hb hV hc'
            obtain ⟨m, n, cap, A6, rfl, hcap, hm, hR, hb, hV⟩ := hrel
            have hml := hm.out
            have h64 := hq64.out
            have hgl := hV.out.lt
            by_cases hlt : 0 < n
            · have h64n : 64 ≤ n := by omega
              have hnb : n ≤ 1099511627776 := by omega
              have hVV : Blk wr w.heap.size 65 (s8V (eatN (hw t) (hr t ++ padL t.length) m) ++ ([] : List Value).toArray) := by rw [List.toArray_nil_, Array.append_empty]; exact hV.out
              replace hVV := hid_mk hVV
              clear h64 hml
              go_wp2_with fail
              refine (block_any w.heap.size _ _ _ A6 n cap _ _ hVV.out h64n hnb hR.out).mono ?_
              rintro e w3 ⟨rfl, hb3, hG3⟩
              have hsl := run_slice_from (P := Try.prog) (w := w3) 67 5 Try.underlying67 i0 hi0 1 hz1 A6 n cap 64 (by omega) (by omega)
              go_wp2
              go_roundw
              case rel =>
                refine ⟨m + 1, n - 64, cap - 64, _, rfl, by omega, by rw [Hid]; have := hm.out; omega, ?_, hid_mk (hb.out.grown hb3 hb.out.size (fun k hk => by injection hk with hk; omega)), ?_⟩
                · have := ((hR.out.gb hV.out (Nat.le_refl _) (by decide) hb3).cutA (k := 64) (cap := cap) h64n hcap)
                  rw [Nat.mul_one, ← bc_drop, List.drop_drop] at this
                  exact this
                · rw [List.toArray_nil_, Array.append_empty] at hG3
                  exact hG3
              case measure => simp [lenV]; omega
            · obtain rfl : n = 0 := by omega
              have hwd := hw_append t (padL t.length)
              rw [hql.out, show q' / 64 = m from by omega] at hwd
              rw [hwd] at hV
              have hok := okS_hw (t ++ padL t.length)
              have hdig : Hid (digL t = outL (hw (t ++ padL t.length))) := rfl
              obtain ⟨S, hS⟩ : ∃ S, hw (t ++ padL t.length) = S := ⟨_, rfl⟩
              rw [hS] at hV hok hdig
              clear hwd hS hml h64 hlt hgl
              obtain ⟨xa, xb, xc, xd, xe, xf, xg, xh⟩ := S
              obtain ⟨⟨la, ua⟩, ⟨lb, ub⟩, ⟨lc, uc⟩, ⟨ld, ud⟩, ⟨le_, ue⟩, ⟨lf, uf⟩, ⟨lg, ug⟩, ⟨lh, uh⟩⟩ := hok
              dsimp only at la ua lb ub lc uc ld ud le_ ue lf uf lg ug lh uh
              have e0 : wr.cell? ⟨w.heap.size, 0, none⟩ = some (.int .u32 xa) := hV.out.cell 0
              have e1 : wr.cell? ⟨w.heap.size, 1, none⟩ = some (.int .u32 xb) := hV.out.cell 1
              have e2 : wr.cell? ⟨w.heap.size, 2, none⟩ = some (.int .u32 xc) := hV.out.cell 2
              have e3 : wr.cell? ⟨w.heap.size, 3, none⟩ = some (.int .u32 xd) := hV.out.cell 3
              have e4 : wr.cell? ⟨w.heap.size, 4, none⟩ = some (.int .u32 xe) := hV.out.cell 4
              have e5 : wr.cell? ⟨w.heap.size, 5, none⟩ = some (.int .u32 xf) := hV.out.cell 5
              have e6 : wr.cell? ⟨w.heap.size, 6, none⟩ = some (.int .u32 xg) := hV.out.cell 6
              have e7 : wr.cell? ⟨w.heap.size, 7, none⟩ = some (.int .u32 xh) := hV.out.cell 7
              have hgl := hV.out.lt
              clear hV hR hm
              go_wp2
              go_loopw [6, 54] (fun s i wr => ∃ (k q c : Nat) (A : Option Addr), s = .slice A q c ∧ q ≤ c ∧ Hid (q = 4 * k) ∧ k ≤ 8 ∧ i = .int .i64 k ∧ Own w wr (.slice A q c) q (((s8L ⟨xa, xb, xc, xd, xe, xf, xg, xh⟩).take k).flatMap be4) ∧ Hid (Below w.heap.size w wr)) (fun _ i _ => 8 - (intOf i).toNat)
              case atStart => exact ⟨0, 0, 0, none, rfl, Nat.le_refl _, rfl, by omega, rfl, Own.nil, hb⟩
              case round =>
                clear e0 e1 e2 e3 e4 e5 e6 e7 hgl hb
                obtain ⟨k, q, c, A, rfl, hc, hq, hk, rfl, hown, hb⟩ := hrel
                have hqb : q ≤ 32 := by have := hq.out; omega
                by_cases hlt : k < 8
                · rcases (by omega : k = 0 ∨ k = 1 ∨ k = 2 ∨ k = 3 ∨ k = 4 ∨ k = 5 ∨ k = 6 ∨ k = 7) with rfl | rfl | rfl | rfl | rfl | rfl | rfl | rfl
                  · clear hlt hk
                    have hix := idx8_0 xa xb xc xd xe xf xg xh wr
                    go_wp2_with (at_builtin; refine wpList_append_bytes rfl (.tmp 57) (.tmp 69) 67 rfl i0 Try.underlying67 hi0 hz0 hz1 hz2 hb.out (.slice A q c) q _ rfl hown (be4 xa) 4 4 rfl _ (be4_cells xa la ua).symm rfl (by omega) ?_; intro A5 c5 w5 hown5 hc5 q5 st hs5)
                    go_roundw
                    case rel => exact ⟨1, q + 4, c5, A5, rfl, hc5, by rw [Hid, hq.out], by omega, by rfl, hown5, hid_mk q5⟩
                    case measure => simp [intOf]
                  · clear hlt hk
                    have hix := idx8_1 xa xb xc xd xe xf xg xh wr
                    go_wp2_with (at_builtin; refine wpList_append_bytes rfl (.tmp 57) (.tmp 69) 67 rfl i0 Try.underlying67 hi0 hz0 hz1 hz2 hb.out (.slice A q c) q _ rfl hown (be4 xb) 4 4 rfl _ (be4_cells xb lb ub).symm rfl (by omega) ?_; intro A5 c5 w5 hown5 hc5 q5 st hs5)
                    go_roundw
                    case rel => exact ⟨2, q + 4, c5, A5, rfl, hc5, by rw [Hid, hq.out], by omega, by rfl, hown5, hid_mk q5⟩
                    case measure => simp [intOf]
                  · clear hlt hk
                    have hix := idx8_2 xa xb xc xd xe xf xg xh wr
                    go_wp2_with (at_builtin; refine wpList_append_bytes rfl (.tmp 57) (.tmp 69) 67 rfl i0 Try.underlying67 hi0 hz0 hz1 hz2 hb.out (.slice A q c) q _ rfl hown (be4 xc) 4 4 rfl _ (be4_cells xc lc uc).symm rfl (by omega) ?_; intro A5 c5 w5 hown5 hc5 q5 st hs5)
                    go_roundw
                    case rel => exact ⟨3, q + 4, c5, A5, rfl, hc5, by rw [Hid, hq.out], by omega, by rfl, hown5, hid_mk q5⟩
                    case measure => simp [intOf]
                  · clear hlt hk
                    have hix := idx8_3 xa xb xc xd xe xf xg xh wr
                    go_wp2_with (at_builtin; refine wpList_append_bytes rfl (.tmp 57) (.tmp 69) 67 rfl i0 Try.underlying67 hi0 hz0 hz1 hz2 hb.out (.slice A q c) q _ rfl hown (be4 xd) 4 4 rfl _ (be4_cells xd ld ud).symm rfl (by omega) ?_; intro A5 c5 w5 hown5 hc5 q5 st hs5)
                    go_roundw
                    case rel => exact ⟨4, q + 4, c5, A5, rfl, hc5, by rw [Hid, hq.out], by omega, by rfl, hown5, hid_mk q5⟩
                    case measure => simp [intOf]
                  · clear hlt hk
                    have hix := idx8_4 xa xb xc xd xe xf xg xh wr
                    go_wp2_with (at_builtin; refine wpList_append_bytes rfl (.tmp 57) (.tmp 69) 67 rfl i0 Try.underlying67 hi0 hz0 hz1 hz2 hb.out (.slice A q c) q _ rfl hown (be4 xe) 4 4 rfl _ (be4_cells xe le_ ue).symm rfl (by omega) ?_; intro A5 c5 w5 hown5 hc5 q5 st hs5)
                    go_roundw
                    case rel => exact ⟨5, q + 4, c5, A5, rfl, hc5, by rw [Hid, hq.out], by omega, by rfl, hown5, hid_mk q5⟩
                    case measure => simp [intOf]
                  · clear hlt hk
                    have hix := idx8_5 xa xb xc xd xe xf xg xh wr
                    go_wp2_with (at_builtin; refine wpList_append_bytes rfl (.tmp 57) (.tmp 69) 67 rfl i0 Try.underlying67 hi0 hz0 hz1 hz2 hb.out (.slice A q c) q _ rfl hown (be4 xf) 4 4 rfl _ (be4_cells xf lf uf).symm rfl (by omega) ?_; intro A5 c5 w5 hown5 hc5 q5 st hs5)
                    go_roundw
                    case rel => exact ⟨6, q + 4, c5, A5, rfl, hc5, by rw [Hid, hq.out], by omega, by rfl, hown5, hid_mk q5⟩
                    case measure => simp [intOf]
                  · clear hlt hk
                    have hix := idx8_6 xa xb xc xd xe xf xg xh wr
                    go_wp2_with (at_builtin; refine wpList_append_bytes rfl (.tmp 57) (.tmp 69) 67 rfl i0 Try.underlying67 hi0 hz0 hz1 hz2 hb.out (.slice A q c) q _ rfl hown (be4 xg) 4 4 rfl _ (be4_cells xg lg ug).symm rfl (by omega) ?_; intro A5 c5 w5 hown5 hc5 q5 st hs5)
                    go_roundw
                    case rel => exact ⟨7, q + 4, c5, A5, rfl, hc5, by rw [Hid, hq.out], by omega, by rfl, hown5, hid_mk q5⟩
                    case measure => simp [intOf]
                  · clear hlt hk
                    have hix := idx8_7 xa xb xc xd xe xf xg xh wr
                    go_wp2_with (at_builtin; refine wpList_append_bytes rfl (.tmp 57) (.tmp 69) 67 rfl i0 Try.underlying67 hi0 hz0 hz1 hz2 hb.out (.slice A q c) q _ rfl hown (be4 xh) 4 4 rfl _ (be4_cells xh lh uh).symm rfl (by omega) ?_; intro A5 c5 w5 hown5 hc5 q5 st hs5)
                    go_roundw
                    case rel => exact ⟨8, q + 4, c5, A5, rfl, hc5, by rw [Hid, hq.out], by omega, by rfl, hown5, hid_mk q5⟩
                    case measure => simp [intOf]
                · obtain rfl : k = 8 := by omega
                  have hcv := conv_row (c := c) (hown.reads (B := w.heap.size))
                  clear hlt hk
                  go_wp2
                  refine ends_ret hQ (results_tmp rfl _ _ _) rfl ?_
                  exact ⟨by rw [hdig.out]; rfl, hb.out⟩
end Go.Proofs.Ytngaeencnklbdaa
