/-
  WHAT IS PROVED HERE: what the reference's number and Filled hand back. Conditions: texts of at most 2^47 - 4096 bytes.
-/
import Derived.Test.YtngaeencnklbdaaShaP
import Derived.Test.YtngaeencnklbdaaOwn
namespace Go.Proofs.Ytngaeencnklbdaa
open Go.RowKit

theorem byteJ : (Try.prog.info? 5).map (fun i => (i.zero, i.size, i.bytes)) = some (some (.int .u8 0), 1, 1) := by kernel_rfl
theorem num_sum (x0 x1 x2 x3 : Nat) (z0 : x0 < 256) (z1 : x1 < 256) (z2 : x2 < 256) (z3 : x3 < 256) :
    IntKind.u32.wrap (IntKind.u32.wrap (IntKind.u32.wrap (IntKind.u32.wrap (IntKind.u32.wrap (x0 : Int) * 16777216) + IntKind.u32.wrap (IntKind.u32.wrap (x1 : Int) * 65536)) + IntKind.u32.wrap (IntKind.u32.wrap (x2 : Int) * 256)) + IntKind.u32.wrap (x3 : Int)) = ((x0 * 16777216 + x1 * 65536 + x2 * 256 + x3 : Nat) : Int) := by
  simp only [IntKind.wrap_u32]
  omega
set_option maxRecDepth 100000 in
theorem number_any (A : Option Addr) (n cap : Nat) (l : List UInt8) (w : World) {B : Nat} (h : Reads w B 5 1 A n (Lib.byteCells l)) (hn : 4 ≤ n) (hn2 : n ≤ 140737488355328) :
    Calls Try.prog 53 #[.slice A n cap] w fun e w' => e = .returned (.int .u32 (wordB l 0)) ∧ Below w.heap.size w w' := by
  obtain ⟨b, o, rfl, hbl, _, hc⟩ := h.2 (by omega)
  have hl := h.1
  rw [Lib.byteCells_length] at hl
  have ce : ∀ j, j < l.length → w.cell? ⟨b, o + j, none⟩ = some (.int .u8 ((l.getD j 0).toNat : Int)) := fun j hj => hc _ _ (by simp [Lib.byteCells, hj])
  have c0 := ce 0 (by omega)
  have c1 := ce 1 (by omega)
  have c2 := ce 2 (by omega)
  have c3 := ce 3 (by omega)
  clear ce hc
  rw [Nat.add_zero] at c0
  obtain ⟨x0, hx0⟩ : ∃ x, l.getD 0 0 = x := ⟨_, rfl⟩
  obtain ⟨x1, hx1⟩ : ∃ x, l.getD 1 0 = x := ⟨_, rfl⟩
  obtain ⟨x2, hx2⟩ : ∃ x, l.getD 2 0 = x := ⟨_, rfl⟩
  obtain ⟨x3, hx3⟩ : ∃ x, l.getD 3 0 = x := ⟨_, rfl⟩
  rw [hx0] at c0
  rw [hx1] at c1
  rw [hx2] at c2
  rw [hx3] at c3
  have hwd : Hid (wordB l 0 = (x0.toNat * 16777216 + x1.toNat * 65536 + x2.toNat * 256 + x3.toNat : Nat)) := by unfold Hid wordB; rw [hx0, hx1, hx2, hx3]
  clear hx0 hx1 hx2 hx3
  have z0 := x0.toNat_lt
  have z1 := x1.toNat_lt
  have z2 := x2.toNat_lt
  have z3 := x3.toNat_lt
  have hor := num_sum x0.toNat x1.toNat x2.toNat x3.toNat z0 z1 z2 z3
  rw [← hwd.out] at hor
  have n0 : 0 < n := by omega
  have n1 : 1 < n := by omega
  have n2 : 2 < n := by omega
  have n3 : 3 < n := by omega
  have i1 : (1 : Int) < n := by omega
  have i2 : (2 : Int) < n := by omega
  have i3 : (3 : Int) < n := by omega
  clear hl
  refine calls_of_wpQ Try.func53 rfl ?_
  intro Q hQ
  simp only [Try.ntmps53, List.size_toArray, List.length_cons, List.length_nil, Nat.reduceAdd, Nat.reduceSub, Array.replicate_succ, Array.replicate_zero, List.push_toArray, List.append_toArray, List.nil_append, List.cons_append]
  go_wp2_with fail
  refine wp_region_still_lit (by kernel_rfl) (by kernel_rfl) ?_
  repeat still_step
  refine wpStill_nil ?_
  change Exit.then _ _ _ _ w.drew
  go_wp2
  refine ends_ret hQ (results_tmp rfl _ _ _) rfl ?_
  exact ⟨rfl, (Below.refl _ _).drew⟩
def RetRow (w : World) (l : List UInt8) (e : Ending) (w' : World) : Prop := ∃ A n c, e = .returned (.slice A n c) ∧ n ≤ c ∧ Reads w' w.heap.size 5 1 A n (Lib.byteCells l) ∧ Below w.heap.size w w'
def lenV' : Value → Nat
  | .slice _ n _ => n
  | _ => 0
set_option maxHeartbeats 1600000 in
theorem Filled_any (s : ByteArray) (w : World) (hs : s.size ≤ 140737488351232) :
    Calls Try.prog 48 #[.string s] w (RetRow w (s.data.toList ++ padL s.data.toList.length)) := by
  obtain ⟨i0, hi0, hz0, hz1, hz2⟩ := info_parts byteJ
  have hconv := run_bytes_of_string (P := Try.prog) w 9 67 5 s Try.underlying9 Try.underlying67 Try.underlying5
  have hown0 := own_of_bytes w 5 s (B := w.heap.size) (Nat.le_refl _) (by unfold maxLen; omega)
  obtain ⟨R, hR⟩ : ∃ R, bytesRow s (grownCap w s.size 0 5) = R := ⟨_, rfl⟩
  rw [hR] at hown0 hconv
  replace hR := hid_mk hR
  have hown1 : OwnM (w.alloc (.cells R 5 (R.size, R.size + 1))) w.heap.size 5 (.slice (some ⟨w.heap.size, 0, none⟩) s.size (grownCap w s.size 0 5)) s.size (Lib.byteCells s.data.toList) := hown0
  clear hown0
  have q0 : Below w.heap.size w (w.alloc (.cells R 5 (R.size, R.size + 1))) := by go_grown
  obtain ⟨c0, hc0⟩ : ∃ c, grownCap w s.size 0 5 = c := ⟨_, rfl⟩
  rw [hc0] at hconv hown1
  replace hc0 := hid_mk hc0
  obtain ⟨t, ht⟩ : ∃ t, s.data.toList = t := ⟨_, rfl⟩
  have hts : t.length = s.size := by rw [← ht]; rfl
  rw [ht] at hown1 ⊢
  obtain ⟨z, hz⟩ : ∃ z, padZ t.length = z := ⟨_, rfl⟩
  have hzb : z < 64 := by rw [← hz]; unfold padZ; omega
  have hzv : Hid ((s.size + 1 + z) % 64 = 56) := by rw [Hid, ← hz, ← hts]; unfold padZ; omega
  have hzn : Hid (∀ j, j < z → (s.size + 1 + j) % 64 ≠ 56) := by
    intro j hj
    have := hzv.out
    omega
  replace hz := hid_mk hz
  replace ht := hid_mk ht
  replace hts := hid_mk hts
  refine calls_of_wpQ Try.func48 rfl ?_
  intro Q hQ
  simp only [Try.ntmps48, List.size_toArray, List.length_cons, List.length_nil, Nat.reduceAdd, Nat.reduceSub, Array.replicate_succ, Array.replicate_zero, List.push_toArray, List.append_toArray, List.nil_append, List.cons_append]
  go_wp2_with (at_builtin; refine wpl_append_newd rfl (.tmp 7) (.tmp 8) 67 rfl 5 i0 _ 1 Try.underlying67 hi0 hz0 hz1 hz2 rfl q0 (.slice (some ⟨w.heap.size, 0, none⟩) s.size c0) s.size _ rfl hown1 (Lib.byteCells [128]) 1 1 rfl _ rfl (by simp [Act.eval]) (by intro u hu; simp [Lib.byteCells] at hu; subst hu; rfl) (by omega) (by omega) ?_; intro A3 c3 w3 hown3 hc3 q3 st hs3; rw [← Lib.byteCells_append] at hown3; clear st hs3)
  clear hown1 q0 hconv
  go_loopw [3] (fun s' wr => ∃ (j q c : Nat) (A : Option Addr), s' = .slice A q c ∧ q ≤ c ∧ Hid (q = s.size + 1 + j) ∧ j ≤ z ∧ OwnM wr w.heap.size 5 (.slice A q c) q (Lib.byteCells (t ++ [128] ++ List.replicate j 0)) ∧ Hid (Below w.heap.size w wr)) (fun s' _ => 140737488351432 - lenV' s')
  case atStart => exact ⟨0, s.size + 1, c3, A3, rfl, hc3, by rw [Hid, Nat.add_zero], Nat.zero_le _, by rw [List.replicate_zero, List.append_nil]; exact hown3, hid_mk q3⟩
  case round =>
    clear hown3 q3 hc3
    obtain ⟨j, q, c, A, rfl, hc, hq, hj, hown, hb⟩ := hrel
    have hqv := hq.out
    by_cases hlt : j < z
    · have hm : ((q : Int) % 64 != 56) = true := by
        have := hzn.out j hlt
        simp; omega
      have hqb : q ≤ 140737488351400 := by omega
      clear hqv
      go_wp2_with (at_builtin; refine wpl_append_new rfl (.tmp 14) (.tmp 15) 67 rfl 5 i0 _ 1 Try.underlying67 hi0 hz0 hz1 hz2 rfl hb.out (.slice A q c) q _ rfl hown (Lib.byteCells [0]) 1 1 rfl _ rfl (by simp [Act.eval]) (by intro u hu; simp [Lib.byteCells] at hu; subst hu; rfl) (by omega) (by omega) ?_; intro A5 c5 w5 hown5 hc5 q5 st hs5; rw [← Lib.byteCells_append] at hown5; clear st)
      go_roundw
      case rel => exact ⟨j + 1, q + 1, c5, A5, rfl, hc5, by rw [Hid, hq.out]; omega, hlt, by rw [List.replicate_succ', ← List.append_assoc]; exact hown5, hid_mk q5⟩
      case measure => simp [lenV']; omega
    · obtain rfl : j = z := by omega
      have hm : ((q : Int) % 64 != 56) = false := by
        have := hzv.out
        simp; omega
      have hqb : q ≤ 140737488351400 := by omega
      clear hqv hlt hj
      go_wp2
      go_loopw [3, 5] (fun s' i wr => ∃ (k q' c : Nat) (A : Option Addr), s' = .slice A q' c ∧ q' ≤ c ∧ Hid (q' = q + k) ∧ k ≤ 8 ∧ i = .int .i64 (7 - (k : Int)) ∧ OwnM wr w.heap.size 5 (.slice A q' c) q' (Lib.byteCells (t ++ [128] ++ List.replicate j 0 ++ (be8 (8 * s.size)).take k)) ∧ Hid (Below w.heap.size w wr)) (fun _ i _ => (intOf i + 1).toNat)
      case atStart => exact ⟨0, q, c, A, rfl, hc, by rw [Hid, Nat.add_zero], by omega, rfl, by rw [List.take_zero, List.append_nil]; exact hown, hb⟩
      case round =>
        clear hown hb hc hm
        obtain ⟨k, q', c', A', rfl, hc', hq', hk, rfl, hown, hb⟩ := hrel
        have hqb' : q' ≤ 140737488351420 := by have := hq'.out; omega
        by_cases hlt : k < 8
        · rcases (by omega : k = 0 ∨ k = 1 ∨ k = 2 ∨ k = 3 ∨ k = 4 ∨ k = 5 ∨ k = 6 ∨ k = 7) with rfl | rfl | rfl | rfl | rfl | rfl | rfl | rfl
          · clear hlt hk
            go_wp2_with (at_builtin; refine wpl_append_new rfl (.tmp 25) (.tmp 33) 67 rfl 5 i0 _ 1 Try.underlying67 hi0 hz0 hz1 hz2 rfl hb.out (.slice A' q' c') q' _ rfl hown (Lib.byteCells [UInt8.ofNat (8 * s.size / 72057594037927936)]) 1 1 rfl _ (by simp [Lib.byteCells, UInt8.toNat_ofNat']; omega) (by simp [Act.eval]) (by intro u hu; simp [Lib.byteCells] at hu; subst hu; rfl) (by omega) (by omega) ?_; intro A5 c5 w5 hown5 hc5 q5 st hs5; rw [← Lib.byteCells_append] at hown5; clear st)
            go_roundw
            case rel => exact ⟨1, q' + 1, c5, A5, rfl, hc5, by rw [Hid, hq'.out], by omega, by rfl, by rw [List.append_assoc] at hown5; exact hown5, hid_mk q5⟩
            case measure => simp [intOf]
          · clear hlt hk
            go_wp2_with (at_builtin; refine wpl_append_new rfl (.tmp 25) (.tmp 33) 67 rfl 5 i0 _ 1 Try.underlying67 hi0 hz0 hz1 hz2 rfl hb.out (.slice A' q' c') q' _ rfl hown (Lib.byteCells [UInt8.ofNat (8 * s.size / 281474976710656)]) 1 1 rfl _ (by simp [Lib.byteCells, UInt8.toNat_ofNat']; omega) (by simp [Act.eval]) (by intro u hu; simp [Lib.byteCells] at hu; subst hu; rfl) (by omega) (by omega) ?_; intro A5 c5 w5 hown5 hc5 q5 st hs5; rw [← Lib.byteCells_append] at hown5; clear st)
            go_roundw
            case rel => exact ⟨2, q' + 1, c5, A5, rfl, hc5, by rw [Hid, hq'.out], by omega, by rfl, by rw [List.append_assoc] at hown5; exact hown5, hid_mk q5⟩
            case measure => simp [intOf]
          · clear hlt hk
            go_wp2_with (at_builtin; refine wpl_append_new rfl (.tmp 25) (.tmp 33) 67 rfl 5 i0 _ 1 Try.underlying67 hi0 hz0 hz1 hz2 rfl hb.out (.slice A' q' c') q' _ rfl hown (Lib.byteCells [UInt8.ofNat (8 * s.size / 1099511627776)]) 1 1 rfl _ (by simp [Lib.byteCells, UInt8.toNat_ofNat']; omega) (by simp [Act.eval]) (by intro u hu; simp [Lib.byteCells] at hu; subst hu; rfl) (by omega) (by omega) ?_; intro A5 c5 w5 hown5 hc5 q5 st hs5; rw [← Lib.byteCells_append] at hown5; clear st)
            go_roundw
            case rel => exact ⟨3, q' + 1, c5, A5, rfl, hc5, by rw [Hid, hq'.out], by omega, by rfl, by rw [List.append_assoc] at hown5; exact hown5, hid_mk q5⟩
            case measure => simp [intOf]
          · clear hlt hk
            go_wp2_with (at_builtin; refine wpl_append_new rfl (.tmp 25) (.tmp 33) 67 rfl 5 i0 _ 1 Try.underlying67 hi0 hz0 hz1 hz2 rfl hb.out (.slice A' q' c') q' _ rfl hown (Lib.byteCells [UInt8.ofNat (8 * s.size / 4294967296)]) 1 1 rfl _ (by simp [Lib.byteCells, UInt8.toNat_ofNat']; omega) (by simp [Act.eval]) (by intro u hu; simp [Lib.byteCells] at hu; subst hu; rfl) (by omega) (by omega) ?_; intro A5 c5 w5 hown5 hc5 q5 st hs5; rw [← Lib.byteCells_append] at hown5; clear st)
            go_roundw
            case rel => exact ⟨4, q' + 1, c5, A5, rfl, hc5, by rw [Hid, hq'.out], by omega, by rfl, by rw [List.append_assoc] at hown5; exact hown5, hid_mk q5⟩
            case measure => simp [intOf]
          · clear hlt hk
            go_wp2_with (at_builtin; refine wpl_append_new rfl (.tmp 25) (.tmp 33) 67 rfl 5 i0 _ 1 Try.underlying67 hi0 hz0 hz1 hz2 rfl hb.out (.slice A' q' c') q' _ rfl hown (Lib.byteCells [UInt8.ofNat (8 * s.size / 16777216)]) 1 1 rfl _ (by simp [Lib.byteCells, UInt8.toNat_ofNat']; omega) (by simp [Act.eval]) (by intro u hu; simp [Lib.byteCells] at hu; subst hu; rfl) (by omega) (by omega) ?_; intro A5 c5 w5 hown5 hc5 q5 st hs5; rw [← Lib.byteCells_append] at hown5; clear st)
            go_roundw
            case rel => exact ⟨5, q' + 1, c5, A5, rfl, hc5, by rw [Hid, hq'.out], by omega, by rfl, by rw [List.append_assoc] at hown5; exact hown5, hid_mk q5⟩
            case measure => simp [intOf]
          · clear hlt hk
            go_wp2_with (at_builtin; refine wpl_append_new rfl (.tmp 25) (.tmp 33) 67 rfl 5 i0 _ 1 Try.underlying67 hi0 hz0 hz1 hz2 rfl hb.out (.slice A' q' c') q' _ rfl hown (Lib.byteCells [UInt8.ofNat (8 * s.size / 65536)]) 1 1 rfl _ (by simp [Lib.byteCells, UInt8.toNat_ofNat']; omega) (by simp [Act.eval]) (by intro u hu; simp [Lib.byteCells] at hu; subst hu; rfl) (by omega) (by omega) ?_; intro A5 c5 w5 hown5 hc5 q5 st hs5; rw [← Lib.byteCells_append] at hown5; clear st)
            go_roundw
            case rel => exact ⟨6, q' + 1, c5, A5, rfl, hc5, by rw [Hid, hq'.out], by omega, by rfl, by rw [List.append_assoc] at hown5; exact hown5, hid_mk q5⟩
            case measure => simp [intOf]
          · clear hlt hk
            go_wp2_with (at_builtin; refine wpl_append_new rfl (.tmp 25) (.tmp 33) 67 rfl 5 i0 _ 1 Try.underlying67 hi0 hz0 hz1 hz2 rfl hb.out (.slice A' q' c') q' _ rfl hown (Lib.byteCells [UInt8.ofNat (8 * s.size / 256)]) 1 1 rfl _ (by simp [Lib.byteCells, UInt8.toNat_ofNat']; omega) (by simp [Act.eval]) (by intro u hu; simp [Lib.byteCells] at hu; subst hu; rfl) (by omega) (by omega) ?_; intro A5 c5 w5 hown5 hc5 q5 st hs5; rw [← Lib.byteCells_append] at hown5; clear st)
            go_roundw
            case rel => exact ⟨7, q' + 1, c5, A5, rfl, hc5, by rw [Hid, hq'.out], by omega, by rfl, by rw [List.append_assoc] at hown5; exact hown5, hid_mk q5⟩
            case measure => simp [intOf]
          · clear hlt hk
            go_wp2_with (at_builtin; refine wpl_append_new rfl (.tmp 25) (.tmp 33) 67 rfl 5 i0 _ 1 Try.underlying67 hi0 hz0 hz1 hz2 rfl hb.out (.slice A' q' c') q' _ rfl hown (Lib.byteCells [UInt8.ofNat (8 * s.size)]) 1 1 rfl _ (by simp [Lib.byteCells, UInt8.toNat_ofNat']; omega) (by simp [Act.eval]) (by intro u hu; simp [Lib.byteCells] at hu; subst hu; rfl) (by omega) (by omega) ?_; intro A5 c5 w5 hown5 hc5 q5 st hs5; rw [← Lib.byteCells_append] at hown5; clear st)
            go_roundw
            case rel => exact ⟨8, q' + 1, c5, A5, rfl, hc5, by rw [Hid, hq'.out], by omega, by rfl, by rw [List.append_assoc] at hown5; exact hown5, hid_mk q5⟩
            case measure => simp [intOf]
        · obtain rfl : k = 8 := by omega
          have hLv : t ++ [128] ++ List.replicate j 0 ++ (be8 (8 * s.size)).take 8 = t ++ padL t.length := by
            unfold padL
            rw [hz.out, hts.out]
            simp only [List.append_assoc]
            rfl
          rw [hLv] at hown
          clear hlt hk hLv
          go_wp2
          refine ends_ret hQ (results_tmp rfl _ _ _) rfl ?_
          exact ⟨A', q', c', rfl, hc', hown.reads, hb.out⟩
end Go.Proofs.Ytngaeencnklbdaa
