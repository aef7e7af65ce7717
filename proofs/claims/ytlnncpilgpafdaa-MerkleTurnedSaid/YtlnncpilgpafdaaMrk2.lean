/-
  WHAT IS PROVED HERE: what merkle's Root, Prove and Check hand back. Conditions: texts of at most 2^38 bytes, slices of at most 2^43 strings.
-/
import Derived.Test.YtlnncpilgpafdaaMrk1
namespace Go.Proofs.Ytlnncpilgpafdaa
open Go.RowKit

def zero32 : ByteArray := ⟨(List.replicate 32 0).toArray⟩
theorem zero32_32 : zero32.size = 32 := by decide
/-- the top of leaves -/
def topS (ss : List ByteArray) : ByteArray := (topW dB (if ss = [] then [zero32] else ss)).headD ByteArray.empty
def rootB (ss : List ByteArray) : ByteArray := dB (crownT ss.length (topS ss))
theorem rightS_0 {ss : List ByteArray} (h : rightS ss = 0) : ss.length ≤ 4096 ∧ ∀ s ∈ ss, s.size = 32 := by
  unfold rightS at h
  split at h
  · cases h
  · split at h
    · cases h
    · rename_i h1 h2
      refine ⟨by omega, fun s hs => ?_⟩
      have h3 : ss.any bad32 = false := by simpa using h2
      have := List.any_eq_false.1 h3 s hs
      unfold bad32 at this
      simpa using this
theorem xor_one (j : Nat) (h : j < 4096) : bits BinOp.xor IntKind.i64 (j : Int) 1 = (beside j : Int) := by
  have : ∀ a b : Fin 64, bits BinOp.xor IntKind.i64 ((64 * a.val + b.val : Nat) : Int) 1 = (beside (64 * a.val + b.val) : Int) := by decide +kernel
  have h2 := this ⟨j / 64, by omega⟩ ⟨j % 64, by omega⟩
  simp only [Nat.div_add_mod] at h2
  exact h2
theorem beside_sib {m j : Nat} (hj : j < m) : beside j < m ↔ sib m j := by
  unfold beside sib
  split <;> omega
theorem zrow : (Lib.byteCells (List.replicate 32 0)).toArray = #[.int .u8 0, .int .u8 0, .int .u8 0, .int .u8 0, .int .u8 0, .int .u8 0, .int .u8 0, .int .u8 0, .int .u8 0, .int .u8 0, .int .u8 0, .int .u8 0, .int .u8 0, .int .u8 0, .int .u8 0, .int .u8 0, .int .u8 0, .int .u8 0, .int .u8 0, .int .u8 0, .int .u8 0, .int .u8 0, .int .u8 0, .int .u8 0, .int .u8 0, .int .u8 0, .int .u8 0, .int .u8 0, .int .u8 0, .int .u8 0, .int .u8 0, .int .u8 0] := by rfl
theorem crown_0 (top : ByteArray) (w : World) (ht : top.size ≤ 137438953472) : Calls Try.prog 28 #[.int .i64 0, .string top] w fun e w' => e = .returned (.string (dB (crownT 0 top))) ∧ Below w.heap.size w w' := crown_any 0 top w (by omega) ht
theorem make32 (w : World) : (Instr.makeSlice 44 (.int .i64 32) (.int .i64 32)).run Try.prog w = .ok (.slice (some ⟨w.heap.size, 0, none⟩) 32 32) (w.alloc (.cells #[.int .u8 0, .int .u8 0, .int .u8 0, .int .u8 0, .int .u8 0, .int .u8 0, .int .u8 0, .int .u8 0, .int .u8 0, .int .u8 0, .int .u8 0, .int .u8 0, .int .u8 0, .int .u8 0, .int .u8 0, .int .u8 0, .int .u8 0, .int .u8 0, .int .u8 0, .int .u8 0, .int .u8 0, .int .u8 0, .int .u8 0, .int .u8 0, .int .u8 0, .int .u8 0, .int .u8 0, .int .u8 0, .int .u8 0, .int .u8 0, .int .u8 0, .int .u8 0] 5)) := by kernel_rfl
theorem Root_bad (A : Option Addr) (n cap : Nat) (ss : List ByteArray) (w : World) {B : Nat} (h : Strs w B A n ss) (hn : n ≤ 8796093022208) (hr : rightS ss ≠ 0) :
    Calls Try.prog 17 #[.slice A n cap] w fun e w' => e = .returned (.tuple #[.string ⟨#[]⟩, .int .i64 (rightS ss)]) ∧ w = w' := by
  obtain ⟨r, hrr⟩ : ∃ r, rightS ss = r := ⟨_, rfl⟩
  rw [hrr] at hr ⊢
  have hne : (r != 0) = true := by simpa using hr
  replace hrr := hid_mk hrr
  clear hr
  refine calls_of_wpQ Try.func17 rfl ?_
  intro Q hQ
  simp only [Try.ntmps17, List.size_toArray, List.length_cons, List.length_nil, Nat.reduceAdd, Nat.reduceSub, Array.replicate_succ, Array.replicate_zero, List.push_toArray, List.append_toArray, List.nil_append, List.cons_append]
  go_wp2_with fail
  refine (right_any A n cap ss _ h hn).mono ?_
  rw [hrr.out]
  rintro e w1 ⟨rfl, rfl⟩
  go_wp2
  refine ends_ret hQ (results_tmp2 rfl _ _ _) rfl ?_
  exact ⟨rfl, rfl⟩
set_option maxHeartbeats 800000 in
theorem Root_none (A : Option Addr) (cap : Nat) (w : World) :
    Calls Try.prog 17 #[.slice A 0 cap] w fun e w' => e = .returned (.tuple #[.string (rootB []), .int .i64 0]) ∧ Below w.heap.size w w' := by
  have h : Strs w w.heap.size A 0 [] := ⟨rfl, fun h => absurd h (by omega)⟩
  have hr : Hid (rightS [] = 0) := rfl
  have hrow := reads_new w (Lib.byteCells (List.replicate 32 0)).toArray 5 32 1 w.heap.size rfl
  have hcv := conv_row (c := 32) hrow
  rw [zrow] at hcv
  have hzz : (⟨(List.replicate 32 0).toArray⟩ : ByteArray) = zero32 := rfl
  rw [hzz] at hcv
  have hro : Hid (dB (crownT 0 zero32) = rootB []) := by
    unfold Hid rootB topS
    rw [if_pos rfl, topW_done dB (by simp)]; rfl
  have hzs : zero32.size ≤ 32 := Nat.le_of_eq zero32_32
  have hmk := make32 w
  clear hrow hzz
  refine calls_of_wpQ Try.func17 rfl ?_
  intro Q hQ
  simp only [Try.ntmps17, List.size_toArray, List.length_cons, List.length_nil, Nat.reduceAdd, Nat.reduceSub, Array.replicate_succ, Array.replicate_zero, List.push_toArray, List.append_toArray, List.nil_append, List.cons_append]
  go_wp2_with fail
  refine (right_any A 0 cap [] _ h (by omega)).mono ?_
  rw [hr.out]
  rintro e w1 ⟨rfl, rfl⟩
  go_wp2_with fail
  refine (crown_0 zero32 _ (by omega)).mono ?_
  rw [hro.out]
  rintro e w1 ⟨rfl, hb1⟩
  have q1 := (after (w := w) hb1 (by go_grown)).1
  go_wp2
  refine ends_ret hQ (results_tmp2 rfl _ _ _) rfl ?_
  exact ⟨rfl, q1⟩
set_option maxHeartbeats 1600000 in
theorem Root_some (A : Option Addr) (n cap : Nat) (ss : List ByteArray) (w : World) {B : Nat} (h : Strs w B A n ss) (hc : n ≤ cap) (hr : rightS ss = 0) (hn0 : 0 < n) :
    Calls Try.prog 17 #[.slice A n cap] w fun e w' => e = .returned (.tuple #[.string (rootB ss), .int .i64 0]) ∧ Below w.heap.size w w' := by
  obtain ⟨hr1, hr2⟩ := rightS_0 hr
  have hlen := h.len
  have hn : n ≤ 4096 := by omega
  have hR0 : Hid (Strs w w.heap.size A n ss) := Reads.topS h
  have hro : Hid (∀ t, topW dB ss = [t] → dB (crownT n t) = rootB ss) := by
    intro t ht
    unfold rootB topS
    rw [if_neg (by intro e; rw [e] at hlen; simp at hlen; omega), ht, hlen]; rfl
  have h32 : Hid (∀ s ∈ ss, s.size = 32) := hr2
  have hnz : ((n : Int) == 0) = false := by simp; omega
  replace hr := hid_mk hr
  clear hr1 hr2 hlen
  refine calls_of_wpQ Try.func17 rfl ?_
  intro Q hQ
  simp only [Try.ntmps17, List.size_toArray, List.length_cons, List.length_nil, Nat.reduceAdd, Nat.reduceSub, Array.replicate_succ, Array.replicate_zero, List.push_toArray, List.append_toArray, List.nil_append, List.cons_append]
  go_wp2_with fail
  refine (right_any A n cap ss _ h (by omega)).mono ?_
  rw [hr.out]
  rintro e w1 ⟨rfl, rfl⟩
  clear h
  go_wp2
  go_loopw [5] (fun s wr => ∃ (n' c' : Nat) (A' : Option Addr) (row : List ByteArray), s = .slice A' n' c' ∧ n' ≤ c' ∧ 0 < n' ∧ n' ≤ 4096 ∧ Hid (Strs wr wr.heap.size A' n' row) ∧ Hid (topW dB ss = topW dB row) ∧ Hid (∀ s ∈ row, s.size = 32) ∧ Hid (Below w.heap.size w wr)) (fun s _ => lenW s)
  case atStart => exact ⟨n, cap, A, ss, rfl, hc, hn0, hn, hR0, rfl, h32, hid_mk (Below.refl _ _)⟩
  case round =>
    clear hR0 h32 hc
    obtain ⟨n', c', A', row, rfl, hc', hn0', hn', hR, htop, h32, hb⟩ := hrel
    by_cases hlt : 1 < n'
    · have hl1 : 1 < row.length := by rw [hR.out.len]; exact hlt
      have htop2 : Hid (topW dB ss = topW dB (aboveL dB row)) := by rw [Hid, htop.out, topW_step dB hl1]
      have hal : Hid ((aboveL dB row).length = (n' + 1) / 2) := by rw [Hid, aboveL_len, hR.out.len]
      have h32' : Hid (∀ s ∈ aboveL dB row, s.size = 32) := aboveL_32 dB dB_32 row h32.out
      clear hl1
      go_wp2_with fail
      refine (above_any A' n' c' row _ hR.out hn' hc' h32.out).mono ?_
      rintro e w2 ⟨A2, n2, c2, rfl, hc2, hS2, hb2, _⟩
      have q2 := hid_mk (after (w := w) hb2 hb.out).1
      have hn2 : n2 = (n' + 1) / 2 := by have := hS2.len; rw [hal.out] at this; omega
      have hn2a : 0 < n2 ∧ n2 ≤ 4096 ∧ n2 < n' := by omega
      obtain ⟨hn2b, hn2c, hn2d⟩ := hn2a
      replace hn2 := hid_mk hn2
      clear hb2
      go_wp2
      go_roundw
      case rel => exact ⟨n2, c2, A2, _, rfl, hc2, hn2b, hn2c, Reads.topS hS2, htop2, h32', q2⟩
      case measure => simp [lenW]; omega
    · obtain rfl : n' = 1 := by omega
      have hl := hR.out.len
      obtain ⟨t, rfl⟩ : ∃ t, row = [t] := by
        match row, hl with
        | [t], _ => exact ⟨t, rfl⟩
      obtain ⟨b0, o0, rfl, hbl, _, hcell⟩ := hR.out.2 (by omega)
      have c0 : wr.cell? ⟨b0, o0, none⟩ = some (.string t) := hcell 0 _ rfl
      have ht32 : t.size ≤ 32 := Nat.le_of_eq (h32.out t (by simp))
      have hrt : Hid (dB (crownT n t) = rootB ss) := hro.out t (by rw [htop.out, topW_done dB (by simp)])
      clear hcell hl hlt
      go_wp2_with fail
      refine (crown_any n t _ (by omega) (by omega)).mono ?_
      rw [hrt.out]
      rintro e w2 ⟨rfl, hb2⟩
      have q2 := hid_mk (after (w := w) hb2 hb.out).1
      go_wp2
      refine ends_ret hQ (results_tmp2 rfl _ _ _) rfl ?_
      exact ⟨rfl, q2.out⟩
theorem Root_any (A : Option Addr) (n cap : Nat) (ss : List ByteArray) (w : World) {B : Nat} (h : Strs w B A n ss) (hc : n ≤ cap) (hn : n ≤ 8796093022208) :
    Calls Try.prog 17 #[.slice A n cap] w fun e w' => e = .returned (if rightS ss = 0 then .tuple #[.string (rootB ss), .int .i64 0] else .tuple #[.string ⟨#[]⟩, .int .i64 (rightS ss)]) ∧ Below w.heap.size w w' := by
  by_cases hr : rightS ss = 0
  · rw [if_pos hr]
    rcases Nat.eq_zero_or_pos n with h0 | h0
    · subst h0
      have : ss = [] := List.eq_nil_of_length_eq_zero h.len
      subst this
      exact Root_none A cap w
    · exact Root_some A n cap ss w h hc hr h0
  · rw [if_neg hr]
    refine (Root_bad A n cap ss w h hn hr).mono ?_
    rintro e w' ⟨rfl, rfl⟩
    exact ⟨rfl, Below.refl _ _⟩
end Go.Proofs.Ytlnncpilgpafdaa
