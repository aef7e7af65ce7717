/-
  WHAT IS PROVED HERE: what merkle's Leaf and the reference's Leaf hand back; two lists of texts that are the same are alike. Condition: texts of at most 2^37 bytes.
-/
import Derived.Test.YtngaeencnklbdaaSha5
import Derived.Test.YtngaeencnklbdaaRef4
import Derived.Test.YtngaeencnklbdaaStr
namespace Go.Proofs.Ytngaeencnklbdaa
open Go.RowKit

def dB (s : ByteArray) : ByteArray := ⟨(digL s.data.toList).toArray⟩
theorem dB_32 (s : ByteArray) : (dB s).size = 32 := digL_len _
def leafT (c : ByteArray) : ByteArray := (⟨#[0]⟩ : ByteArray) ++ c
theorem Leaf_any (c : ByteArray) (w : World) (hc : c.size ≤ 137438953472) :
    Calls Try.prog 23 #[.string c] w fun e w' => e = .returned (.string (dB (leafT c))) ∧ Below w.heap.size w w' := by
  have hT : Hid ((⟨#[0]⟩ : ByteArray) ++ c = leafT c) := rfl
  have hs : (leafT c).size ≤ 549755813888 := by
    unfold leafT
    rw [ByteArray.size_append]
    have : (⟨#[0]⟩ : ByteArray).size = 1 := rfl
    omega
  refine calls_of_wpQ Try.func23 rfl ?_
  intro Q hQ
  simp only [Try.ntmps23, List.size_toArray, List.length_cons, List.length_nil, Nat.reduceAdd, Nat.reduceSub, Array.replicate_succ, Array.replicate_zero, List.push_toArray, List.append_toArray, List.nil_append, List.cons_append]
  go_wp2_with fail
  rw [hT.out]
  refine (Of_any (leafT c) _ hs).mono ?_
  rintro e w1 ⟨rfl, hb1⟩
  go_wp2
  refine ends_ret hQ (results_tmp rfl _ _ _) rfl ?_
  exact ⟨rfl, hb1⟩
theorem RLeaf_any (c : ByteArray) (w : World) (hc : c.size ≤ 137438953472) :
    Calls Try.prog 29 #[.string c] w fun e w' => e = .returned (.string (dB (leafT c))) ∧ Below w.heap.size w w' := by
  have hT : Hid ((⟨#[0]⟩ : ByteArray) ++ c = leafT c) := rfl
  have hs : (leafT c).size ≤ 140737488351232 := by
    unfold leafT
    rw [ByteArray.size_append]
    have : (⟨#[0]⟩ : ByteArray).size = 1 := rfl
    omega
  refine calls_of_wpQ Try.func29 rfl ?_
  intro Q hQ
  simp only [Try.ntmps29, List.size_toArray, List.length_cons, List.length_nil, Nat.reduceAdd, Nat.reduceSub, Array.replicate_succ, Array.replicate_zero, List.push_toArray, List.append_toArray, List.nil_append, List.cons_append]
  go_wp2_with fail
  rw [hT.out]
  refine (ROf_any (leafT c) _ hs).mono ?_
  rintro e w1 ⟨rfl, hb1⟩
  go_wp2
  refine ends_ret hQ (results_tmp rfl _ _ _) rfl ?_
  exact ⟨rfl, hb1⟩
theorem Like_same (A1 : Option Addr) (n1 c1 : Nat) (A2 : Option Addr) (n2 c2 : Nat) (xs : List ByteArray) (w : World) {B1 B2 : Nat} (h1 : Strs w B1 A1 n1 xs) (h2 : Strs w B2 A2 n2 xs) (hn1 : n1 ≤ 8796093022208) :
    Calls Try.prog 15 #[.slice A1 n1 c1, .slice A2 n2 c2] w fun e w' => e = .returned (.bool true) ∧ Below w.heap.size w w' := by
  obtain rfl : n1 = n2 := by rw [← h1.len, ← h2.len]
  refine calls_of_wpQ Try.func15 rfl ?_
  intro Q hQ
  simp only [Try.ntmps15, List.size_toArray, List.length_cons, List.length_nil, Nat.reduceAdd, Nat.reduceSub, Array.replicate_succ, Array.replicate_zero, List.push_toArray, List.append_toArray, List.nil_append, List.cons_append]
  go_wp2
  go_loopw [13] (fun iv wr => ∃ (k : Nat), iv = .int .i64 k ∧ k ≤ n1 ∧ Hid (Below w.heap.size w wr)) (fun iv _ => n1 - (intOf iv).toNat)
  case atStart => exact ⟨0, rfl, Nat.zero_le _, hid_mk (Below.refl _ _)⟩
  case round =>
    obtain ⟨k, rfl, hk, hb⟩ := hrel
    by_cases hlt : k < n1
    · obtain ⟨b0, o0, x, rfl, hbl, _, hsx, hcx⟩ := h1.at_ hlt
      obtain ⟨b1, o1, y, rfl, hbl1, _, hsy, hcy⟩ := h2.at_ hlt
      obtain rfl : x = y := by rw [hsx] at hsy; injection hsy
      have c0 : wr.cell? ⟨b0, o0 + k, none⟩ = some (.string x) := ((bcell hb.out).1 _ _ hbl).trans hcx
      have c1 : wr.cell? ⟨b1, o1 + k, none⟩ = some (.string x) := ((bcell hb.out).1 _ _ hbl1).trans hcy
      have hne : (x.toList != x.toList) = false := by simp
      have hqq : (x.toList == x.toList) = true := by simp
      have k0 : (0 : Int) ≤ k := by omega
      have k1 : (k : Int) < n1 := by omega
      have hbr : b0 < wr.heap.size := Nat.lt_of_lt_of_le hbl hb.out.size
      have hbr1 : b1 < wr.heap.size := Nat.lt_of_lt_of_le hbl1 hb.out.size
      replace hsx := hid_mk hsx
      replace hsy := hid_mk hsy
      clear hcx hcy
      go_wp2_with fail
      go_quiet (fail)
      go_wp2
      go_roundw
      case rel => exact ⟨k + 1, by go_num, by omega, hid_mk (below_drewN hb.out _)⟩
      case measure => simp [intOf]; omega
    · go_wp2
      refine ends_ret hQ (results_tmp rfl _ _ _) rfl ?_
      exact ⟨rfl, hb.out⟩
end Go.Proofs.Ytngaeencnklbdaa
