/-
  WHAT IS PROVED HERE: a list of items, cloned; two stores that are the same are alike; what the reference's with and Sweep hand back. Condition: at most 2^41 items.
-/
import Derived.Test.YtngaeencnklbdaaSto4
namespace Go.Proofs.Ytngaeencnklbdaa
open Go.RowKit

/-- the slice v of n items is the call's own: its row stands from block B on -/
def OwnI (w : World) (B : Nat) (v : Value) (n : Nat) (is : List Itm) : Prop := w.ownsRow B 35 3 v n (itmsL is)
theorem OwnI.itms {w : World} {B B' n c : Nat} {A : Option Addr} {is : List Itm} (h : OwnI w B (.slice A n c) n is) : Itms w B' A n is := reads_of_own h
theorem itmsL_app (a b : List Itm) : itmsL (a ++ b) = itmsL a ++ itmsL b := by unfold itmsL; rw [List.flatMap_append]
theorem Clone_any (is : List Itm) (A : Option Addr) (n cap : Nat) (w : World) {B : Nat} (hm : n ≤ 3518437208800) (h : Itms w B A n is) :
    Calls Try.prog 27 #[.slice A n cap] w fun e w' => ∃ v, e = .returned v ∧ OwnI w' w.heap.size v n is ∧ Below w.heap.size w w' := by
  have hq := fun A : Option Addr => Go.run_eql_slice_nil (P := Try.prog) w 22 35 A n cap Try.underlying22
  rcases A with _ | ad
  · have hn : n = 0 := by
      rcases Nat.eq_zero_or_pos n with h0 | h0
      · exact h0
      · obtain ⟨_, _, e, _⟩ := h.2 h0; cases e
    subst hn
    have hrs : is = [] := List.eq_nil_of_length_eq_zero h.len
    replace hq := hq none
    refine calls_of_wpQ Try.func27 rfl ?_
    intro Q hQ
    simp only [Try.ntmps27, List.size_toArray, List.length_cons, List.length_nil, Nat.reduceAdd, Nat.reduceSub, Array.replicate_succ, Array.replicate_zero, List.push_toArray, List.append_toArray, List.nil_append, List.cons_append]
    go_wp2
    refine ends_ret hQ (results_tmp rfl _ _ _) rfl ?_
    exact ⟨.slice none 0 0, rfl, by rw [hrs]; exact ⟨rfl, .inl ⟨rfl, rfl⟩⟩, Below.refl _ _⟩
  · obtain ⟨i0, hi0, hz0, hz1, hz2⟩ := info_parts40 itemJ3
    replace hq := hq (some ad)
    have hown := World.ownsRow_lit (base := w.heap.size) (e := 35) (size := 3) w #[] 0 (Nat.le_refl _) (by unfold maxLen; omega) (by simp)
    have hI : Reads (w.alloc (.cells #[] 35)) B 35 3 (some ad) n (itmsL is) := Reads.to h ((Below.refl _ w).alloc (Nat.le_refl _) _)
    refine calls_of_wpQ Try.func27 rfl ?_
    intro Q hQ
    simp only [Try.ntmps27, List.size_toArray, List.length_cons, List.length_nil, Nat.reduceAdd, Nat.reduceSub, Array.replicate_succ, Array.replicate_zero, List.push_toArray, List.append_toArray, List.nil_append, List.cons_append]
    go_wp2_with (at_builtin; refine wpList_append_any _ rfl (.tmp 5) (.tmp 6) _ rfl w.heap.size 35 i0 _ 3 40 Try.underlying22 hi0 hz0 hz1 hz2 rfl (by omega) _ 0 [] rfl hown B (some ad) n cap (itmsL is) rfl hI (itm_one is) (by simp only [maxLen]; omega) (by omega) (by simp) ?_; intro v1 w1 hown1 hg1 hat1)
    refine ends_ret hQ (results_tmp rfl _ _ _) rfl ?_
    simp only [Nat.zero_add, List.nil_append] at hown1
    refine ⟨v1, rfl, hown1, ?_⟩
    have hb : Below w.heap.size w (w.alloc (.cells #[] 35)) := (Below.refl _ w).alloc (Nat.le_refl _) _
    exact hb.grown hg1 (by simp) (fun k hk => by cases hk; exact Nat.le_refl _)
theorem itmUnder : Try.prog.underlying 35 = some (.struct (Try.prog.fieldsOf 35)) := by kernel_rfl
theorem itmHeld : Try.prog.stoodInHeld 35 = false := by kernel_rfl
theorem run_neq_itm (k b : ByteArray) (r : Int) (w : World) :
    (binOp .neq 35 (.agg #[.string k, .string b, .int .i64 r]) (.agg #[.string k, .string b, .int .i64 r])).run Try.prog w = .ok (.bool false) w := by
  rw [run_neq_struct, run_equalIn_struct w 9999 35 _ _ itmUnder itmHeld]
  simp [go_sem, Try.underlying35]
set_option maxHeartbeats 800000 in
theorem SLike_same (A : Option Addr) (n c : Nat) (A' : Option Addr) (c' : Nat) (is : List Itm) (w : World) {B B' : Nat} (hm : n ≤ 3518437208800) (h0 : Itms w B A n is) (h0' : Itms w B' A' n is) :
    Calls Try.prog 11 #[.agg #[.slice A n c], .agg #[.slice A' n c']] w fun e w' => e = .returned (.bool true) ∧ Below w.heap.size w w' := by
  have h := h0.top
  have h' := h0'.top
  have hb0 : Hid (Below w.heap.size w ((w.alloc (.cells #[.slice A n c] 24)).alloc (.cells #[.slice A' n c'] 24))) := ((Below.refl _ w).alloc (Nat.le_refl _) _).alloc (by rw [World.size_alloc]; omega) _
  have hX : Hid (Blk ((w.alloc (.cells #[.slice A n c] 24)).alloc (.cells #[.slice A' n c'] 24)) w.heap.size 24 #[.slice A n c]) := (Blk.new w 24 #[.slice A n c]).alloc _
  have hY : Hid (Blk ((w.alloc (.cells #[.slice A n c] 24)).alloc (.cells #[.slice A' n c'] 24)) (w.heap.size + 1) 24 #[.slice A' n c']) := by
    have h1 := Blk.new (w.alloc (.cells #[.slice A n c] 24)) 24 #[.slice A' n c']
    rw [World.size_alloc] at h1
    exact h1
  clear h0 h0'
  refine calls_of_wpQ Try.func11 rfl ?_
  intro Q hQ
  simp only [Try.ntmps11, List.size_toArray, List.length_cons, List.length_nil, Nat.reduceAdd, Nat.reduceSub, Array.replicate_succ, Array.replicate_zero, List.push_toArray, List.append_toArray, List.nil_append, List.cons_append]
  go_wp2
  go_loopw [16] (fun iv wr => ∃ k : Nat, iv = .int .i64 k ∧ k ≤ n ∧ Hid (Below w.heap.size w wr) ∧ Hid (Blk wr w.heap.size 24 #[.slice A n c]) ∧ Hid (Blk wr (w.heap.size + 1) 24 #[.slice A' n c'])) (fun iv _ => n - (intOf iv).toNat)
  case atStart => exact ⟨0, rfl, Nat.zero_le _, hb0, hX, hY⟩
  case round =>
    clear hb0 hX hY
    obtain ⟨k, rfl, hk, hb, hX, hY⟩ := hrel
    by_cases hlt : k < n
    · obtain ⟨b, o, i, rfl, hbl, hik, c0, c1, c2⟩ := (h.to hb.out).at_ hlt
      obtain ⟨b', o', i', rfl, hbl', hik', d0, d1, d2⟩ := (h'.to hb.out).at_ hlt
      obtain rfl : i = i' := by rw [hik] at hik'; injection hik'
      obtain ⟨K, Bd, rf⟩ := i
      dsimp only at c0 c1 c2 d0 d1 d2
      have hne := fun w => run_neq_itm K Bd rf w
      have k0 : (0 : Int) ≤ k := by omega
      have k1 : (k : Int) < n := by omega
      have x0 : wr.cell? ⟨w.heap.size, 0, none⟩ = some (.slice (some ⟨b, o, none⟩) n c) := hX.out.cell 0
      have y0 : wr.cell? ⟨w.heap.size + 1, 0, none⟩ = some (.slice (some ⟨b', o', none⟩) n c') := hY.out.cell 0
      have hgx := hX.out.lt
      have hgy := hY.out.lt
      replace hik := hid_mk hik
      replace hik' := hid_mk hik'
      go_wp2_with fail
      go_quiet (fail)
      obtain ⟨wq, hwq⟩ : ∃ u, wr.drewN nq = u := ⟨_, rfl⟩
      have hbq : Hid (Below w.heap.size w wq) := by rw [← hwq]; exact hid_mk (below_drewN hb.out _)
      have hXq : Hid (Blk wq w.heap.size 24 #[.slice (some ⟨b, o, none⟩) n c]) := by rw [← hwq]; exact hX.out
      have hYq : Hid (Blk wq (w.heap.size + 1) 24 #[.slice (some ⟨b', o', none⟩) n c']) := by rw [← hwq]; exact hY.out
      rw [hwq]
      replace hwq := hid_mk hwq
      go_wp2
      go_roundw
      case rel => exact ⟨k + 1, by go_num, by omega, hbq, hXq, hYq⟩
      case measure => simp [intOf]; omega
    · go_wp2
      refine ends_ret hQ (results_tmp rfl _ _ _) rfl ?_
      exact ⟨rfl, hb.out⟩
end Go.Proofs.Ytngaeencnklbdaa
