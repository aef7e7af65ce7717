/-
  WHAT IS PROVED HERE: what quorum.Wins and quorum.Next (with the range over the function value of 'both') and the reference's Next hand back. Conditions: the slices hold ints and are of at most 2^47 elements.
-/
import Derived.Test.YtncdjmpdbinanaaGreatDoorZGJrn
import Derived.RangeFuncNested
import Derived.RangeFuncBound
import Derived.RangeFuncCalls
import Derived.RangeFuncLeaves
import Derived.Shelf.Abstract
import Derived.Shelf.RegionOpen
import Derived.OwnWalkIn
import Derived.TacticsInMore
import Derived.LoopNIn
import Derived.LoopIn
namespace Go.Proofs.YtncdjmpdbinanaaGreatDoor
open Go.RowKit Go.Shelf

attribute [local go_sem] Oper.semAt_some

theorem cell_of_box_l {W : World} {B : Nat} {v : Value} {t : TypeId} (h : W.heap[B]? = some (.cells #[v] t (0, 0))) : W.cell? ⟨B, 0, none⟩ = some v ∧ W.frozen? ⟨B, 0, none⟩ = false := by
  constructor <;> simp [World.cell?, World.frozen?, h]
theorem cell_new_l (W : World) (v : Value) (t : TypeId) : (W.alloc (.cells #[v] t)).cell? ⟨W.heap.size, 0, none⟩ = some v ∧ (W.alloc (.cells #[v] t)).frozen? ⟨W.heap.size, 0, none⟩ = false :=
  cell_of_box_l (World.alloc_heap_new W _)
theorem cell_alloc_l {W : World} {a : Addr} {v : Value} (o : Obj) (h : W.cell? a = some v) : (W.alloc o).cell? a = some v := cell_kept h (World.grownBy_alloc W o none) (fun r e => by cases e)
/-- those of a that are in b -/
def bothL (b : List Int) : List Int → List Int
  | [] => []
  | x :: xs => if inL x b then x :: bothL b xs else bothL b xs
theorem both_len (b : List Int) : ∀ a, (bothL b a).length = cntL b a
  | [] => rfl
  | x :: xs => by
    have := both_len b xs
    unfold bothL cntL
    split <;> simp [this] <;> omega
theorem both_take {b a : List Int} {k : Nat} {x : Int} (h : a.drop k = x :: a.drop (k + 1)) : bothL b (a.take (k + 1)) = bothL b (a.take k) ++ (if inL x b then [x] else []) := by
  have hk : k < a.length := by
    rcases Nat.lt_or_ge k a.length with h' | h'
    · exact h'
    · rw [List.drop_eq_nil_of_le h'] at h; cases h
  have h2 : a[k]'hk = x := by rw [List.drop_eq_getElem_cons hk] at h; injection h
  rw [List.take_succ_eq_append_getElem hk, h2]
  generalize a.take k = l
  induction l with
  | nil => simp [bothL]
  | cons y ys ih => simp only [List.cons_append, bothL, ih]; split <;> simp
set_option maxRecDepth 100000 in
set_option maxRecDepth 100000 in
set_option maxHeartbeats 1000000 in
/-- the function value of 'both' hands on those of a that are in b -/
theorem both1_stops (n : Nat) (hn : 2 ≤ n) (Ba Bb n₀ : Nat) (a : Option Addr) (len cap : Nat) (xs : List Int) (a' : Option Addr) (len' cap' : Nat) (ys : List Int) (w₀ w : World) (hn₀ : w₀.heap.size = n₀) (hb₀ : Below n₀ w₀ w) (B : Nat) (hm : len ≤ 140737488355328) (hm' : len' ≤ 140737488355328)
    (hA : Ba < n₀) (hB : Bb < n₀) (h0 : n₀ ≤ w.heap.size) (cA : w.cell? ⟨Ba, 0, none⟩ = some (.slice a len cap)) (cB : w.cell? ⟨Bb, 0, none⟩ = some (.slice a' len' cap'))
    (h : Ints w₀ B a len xs) (h' : Ints w₀ B a' len' ys) :
    SeqStopsK Fence.wide n Tryz.prog 161 #[.pointer (some ⟨Ba, 0, none⟩), .pointer (some ⟨Bb, 0, none⟩)] (fun x : Int => #[Value.int .i64 x]) (Below n₀) (fun zs => zs = bothL ys xs) (fun _ => True) len w := by
  intro l J Jx W hW _ _ hY hJ0
  have hlen := hid_mk h.len
  have hW' := hW.mono h0
  have cA1 := (hW'.cell (p := ⟨Ba, 0, none⟩) hA).trans cA
  have hI : ∀ X, Below n₀ W X → Ints X B a len xs := fun X hX => h.to (by rw [hn₀]; exact hb₀.trans (hW'.trans hX))
  have hI' : ∀ X, Below n₀ W X → Ints X B a' len' ys := fun X hX => h'.to (by rw [hn₀]; exact hb₀.trans (hW'.trans hX))
  have cB1 := hid_mk ((hW'.cell (p := ⟨Bb, 0, none⟩) hB).trans cB)
  clear cA cB h h' hW hW' hb₀ hn₀
  refine callsIn_of_wp Tryz.func161 rfl trivial ?_ rfl
  simp only [Tryz.ntmps161, List.size_toArray, List.length_cons, List.length_nil, Nat.reduceAdd, Nat.reduceSub, Array.replicate_succ, Array.replicate_zero, List.push_toArray, List.append_toArray, List.nil_append, List.cons_append]
  gi_wp2
  gi_loopw [5, 8] (fun _ i wr => ∃ k : Nat, k ≤ len ∧ i = .int .i64 k ∧ J (bothL ys (xs.take k)) wr ∧ Below n₀ W wr) (fun _ i _ => len - (intOf i).toNat)
  case atStart => exact ⟨0, Nat.zero_le _, rfl, by simpa [bothL] using hJ0, Below.refl _ _⟩
  case round =>
    obtain ⟨k, hk, rfl, hJ, hnx⟩ := hrel
    by_cases hlt : k < len
    · obtain ⟨b, o, y, rfl, hb, hd, hc⟩ := (hI wr hnx).at_ hlt
      have cB2 := (hnx.cell (p := ⟨Bb, 0, none⟩) hB).trans cB1.out
      have hs := hid_mk (both_take (b := ys) hd.out)
      cases hin : inL y ys
      · replace hin := hid_mk hin
        gi_wp2_with fail
        refine ⟨trivial, fun _ => by omega, ?_⟩
        refine (callsIn_wide.2 (Contains_any _ _ _ ys _ _ _ hm' (hI' wr hnx))).mono ?_
        rw [hin.out]
        rintro e w' ⟨rfl, rfl⟩
        gi_wp2
        refine ⟨fun _ h => (by cases h), ?_⟩
        gi_wp2
        go_roundw
        case rel => exact ⟨k + 1, by omega, by go_num, by rw [hs.out, hin.out]; simpa using hJ, hnx⟩
        case measure => simp [intOf]; omega
      · replace hin := hid_mk hin
        obtain ⟨fn, tmps, assign, body, hy, hR⟩ := hY _ y wr hJ (by rw [both_len]; exact Nat.lt_of_le_of_lt (Nat.le_trans (cnt_le _ _) (List.length_take_le _ _)) hlt)
        gi_wp2_with fail
        refine ⟨trivial, fun _ => by omega, ?_⟩
        refine (callsIn_wide.2 (Contains_any _ _ _ ys _ _ _ hm' (hI' wr hnx))).mono ?_
        rw [hin.out]
        rintro e w' ⟨rfl, rfl⟩
        gi_wp2
        refine ⟨fun _ => by omega, hR.mono ?_⟩
        rintro e W3 (⟨rfl, hJ3, hk3⟩ | ⟨rfl, hJx3⟩)
        · gi_wp2
          go_roundw
          case rel => exact ⟨k + 1, by omega, by go_num, by rw [hs.out, hin.out]; simpa using hJ3, hnx.trans hk3⟩
          case measure => simp [intOf]; omega
        · gi_wp2
          refine bodyPost_ret (results_none rfl _ _ _) rfl ?_
          exact ⟨⟨_, rfl⟩, .inr ⟨_, trivial, hJx3⟩⟩
    · obtain rfl : k = len := by omega
      gi_wp2
      go_end0
      exact ⟨⟨_, rfl⟩, .inl ⟨_, rfl, by have := hlen.out; rwa [List.take_of_length_le (by omega)] at hJ⟩⟩

theorem both_any (a : Option Addr) (len cap : Nat) (a' : Option Addr) (len' cap' : Nat) (w : World) :
    Calls Tryz.prog 134 #[.slice a len cap, .slice a' len' cap'] w fun e w' => e = .returned (.func (.func 161) #[] #[.pointer (some ⟨w.heap.size, 0, none⟩), .pointer (some ⟨w.heap.size + 1, 0, none⟩)]) ∧ (w.alloc (.cells #[.slice a len cap] 25)).alloc (.cells #[.slice a' len' cap'] 25) = w' := by
  go_enter Tryz.func134, Tryz.ntmps134
  go_wp2
  go_ret
  exact ⟨rfl, rfl⟩
set_option maxRecDepth 100000 in
set_option maxRecDepth 100000 in
set_option maxHeartbeats 1000000 in
theorem many_any (gf : Nat) (hgf : ∀ args w, (callFunc gf args).run Tryz.prog w = .ok (.enter gf args) w) (lb : Array Value) (N : Nat) (hN : N ≤ 140737488355328) (zs : List Int) (w : World) (hz : zs.length ≤ N)
    (hs : SeqStopsK Fence.wide 3 Tryz.prog gf lb (fun x : Int => #[Value.int .i64 x]) (Below w.heap.size) (fun ys => ys = zs) (fun _ => True) N (w.alloc (.cells #[.int .i64 0] 3))) :
    Calls Tryz.prog 133 #[.func (.func gf) #[] lb] w fun e w' => e = .returned (.int .i64 zs.length) ∧ Below w.heap.size w w' := by
  refine (callsIn_wide (n := 4)).1 ?_
  refine callsIn_of_wp_marks Tryz.func133 rfl trivial ?_ rfl
  simp only [Tryz.ntmps133, List.size_toArray, List.length_cons, List.length_nil, Nat.reduceAdd, Nat.reduceSub, Array.replicate_succ, Array.replicate_zero, List.push_toArray, List.append_toArray, List.nil_append, List.cons_append]
  gi_wp2
  have hs0 := cell_new_l w (.int .i64 0) 3
  have hB0 : Below w.heap.size w (w.alloc (.cells #[.int .i64 0] 3)) := (Below.refl _ w).alloc (Nat.le_refl _) _
  refine wpIn_rangeFunc_ownF (N := N) rfl (by omega) (gf := gf) (lb := lb) rfl trivial hgf hs belowK_t (belowK_b (by simp)) (Below.refl _ _) (fun _ => rfl)
    (fun pre W => (W.cell? ⟨w.heap.size, 0, none⟩ = some (.int .i64 pre.length) ∧ W.frozen? ⟨w.heap.size, 0, none⟩ = false) ∧ Below w.heap.size w W)
    (fun _ _ _ => False)
    (OwnFrom.and (Own.from (fun s A B row hs hg hr => ⟨cell_kept hs.1 hg hr, (frozen_kept hs.1 hg hr).trans hs.2⟩) _) (ownFrom_below (Nat.le_refl _) (by simp)))
    (fun _ _ _ _ _ hs _ _ => hs)
    ⟨⟨hs0.1, hs0.2⟩, hB0⟩
    (fun x => { tmps := #[.func (.func gf) #[] lb, undef, .int .i64 0, .pointer (some ⟨w.heap.size, 0, none⟩), .func (.func gf) #[] lb, .int .i64 x, undef, undef, undef], defers := [] }) ?assign ?body ?done ?stop
  case assign =>
    intro l x W K hK
    gi_wp2
    simpa using hK
  case body =>
    rintro l pre x W ⟨⟨hc, hf⟩, hB⟩ hl
    have hl2 : pre.length + 1 ≤ 140737488355328 := by omega
    gi_wp2
    exact ⟨KeepsOthers.setCell _ _ _, (Below.refl w.heap.size W).setCell (p := ⟨w.heap.size, 0, none⟩) (Nat.le_refl _) _, ⟨by rw [List.length_append]; exact World.cell?_setCell_same' _ _ _ (by rw [hc]; rfl), by rw [World.frozen?_setCell]; exact hf⟩, hB.setCell (p := ⟨w.heap.size, 0, none⟩) (Nat.le_refl _) _⟩
  case done =>
    rintro D ys W hD rfl ⟨⟨hc, _⟩, hB⟩ hK
    gi_wp2
    refine ⟨by simp, .inl ⟨_, _, rfl, run_takeDeferred hK, ?_⟩⟩
    exact ⟨_, results_tmp rfl _ _ _, rfl, hB.trans (belowK_b (w := w) (Nat.le_refl _) W D _ _ (by simp at hD; omega) hK rfl rfl)⟩
  case stop =>
    rintro D c pre W _ _ h _
    exact h.elim
theorem manyBoth_any (a : Option Addr) (len cap : Nat) (xs : List Int) (a' : Option Addr) (len' cap' : Nat) (ys : List Int) (w : World) (B : Nat) (hm : len ≤ 140737488355328) (hm' : len' ≤ 140737488355328)
    (h : Ints w B a len xs) (h' : Ints w B a' len' ys) :
    Calls Tryz.prog 133 #[.func (.func 161) #[] #[.pointer (some ⟨w.heap.size, 0, none⟩), .pointer (some ⟨w.heap.size + 1, 0, none⟩)]] ((w.alloc (.cells #[.slice a len cap] 25)).alloc (.cells #[.slice a' len' cap'] 25))
      fun e w' => e = .returned (.int .i64 (cntL ys xs)) ∧ Below w.heap.size w w' := by
  have c0 := cell_new_l w (.slice a len cap) 25
  have c1 := cell_new_l (w.alloc (.cells #[.slice a len cap] 25)) (.slice a' len' cap') 25
  simp only [World.size_alloc] at c1
  have hB : Below w.heap.size w ((w.alloc (.cells #[.slice a len cap] 25)).alloc (.cells #[.slice a' len' cap'] 25)) := ((Below.refl _ w).alloc (Nat.le_refl _) _).alloc (by simp) _
  obtain ⟨W, hW⟩ : ∃ W, (w.alloc (.cells #[.slice a len cap] 25)).alloc (.cells #[.slice a' len' cap'] 25) = W := ⟨_, rfl⟩
  have hsz : W.heap.size = w.heap.size + 2 := by rw [← hW]; simp
  have k0 : W.cell? ⟨w.heap.size, 0, none⟩ = some (.slice a len cap) := by rw [← hW]; exact cell_alloc_l _ c0.1
  have k1 : W.cell? ⟨w.heap.size + 1, 0, none⟩ = some (.slice a' len' cap') := by rw [← hW]; exact c1.1
  rw [hW] at hB ⊢
  have hb2 : Below W.heap.size W (W.alloc (.cells #[.int .i64 0] 3)) := (Below.refl _ W).alloc (Nat.le_refl _) _
  refine (many_any 161 (enters_of Tryz.func161 (by kernel_rfl) rfl) _ len hm (bothL ys xs) W (by rw [both_len, ← h.len]; exact cnt_le _ _)
    (both1_stops 3 (by omega) w.heap.size (w.heap.size + 1) W.heap.size a len cap xs a' len' cap' ys W _ rfl hb2 B hm hm' (by omega) (by omega) (by simp) ((hb2.cell (p := ⟨w.heap.size, 0, none⟩) (by rw [hsz]; exact Nat.lt_succ_of_lt (Nat.lt_succ_self _))).trans k0) ((hb2.cell (p := ⟨w.heap.size + 1, 0, none⟩) (by rw [hsz]; exact Nat.lt_succ_self _)).trans k1)
      (h.below hB) (h'.below hB))).mono ?_
  rintro e w' ⟨rfl, hb⟩
  exact ⟨by rw [both_len], hB.trans (hb.mono hB.size)⟩
set_option maxRecDepth 100000 in
set_option maxHeartbeats 800000 in
theorem Next_any (a : Option Addr) (len cap : Nat) (xs : List Int) (a' : Option Addr) (len' cap' : Nat) (ys : List Int) (w : World) (B : Nat) (hm : len ≤ 140737488355328) (hm' : len' ≤ 140737488355328)
    (h : Ints w B a len xs) (h' : Ints w B a' len' ys) :
    Calls Tryz.prog 85 #[.slice a len cap, .slice a' len' cap'] w fun e w' => e = .returned (.bool (rightL xs && rightL ys && decide ((len : Int) - cntL ys xs + len' - cntL ys xs = 1))) ∧ Below w.heap.size w w' := by
  have hle : cntL ys xs ≤ len := by rw [← h.len]; exact cnt_le _ _
  cases hr : rightL xs
  · replace hr := hid_mk hr
    go_enter Tryz.func85, Tryz.ntmps85
    go_wp2_with (first | (go_at_call 134; refine (both_any _ _ _ _ _ _ _).mono ?_; rintro e w' ⟨rfl, rfl⟩) | (go_at_call 133; refine (manyBoth_any _ _ _ xs _ _ _ ys _ _ hm hm' h h').mono ?_; rintro e w' ⟨rfl, hb⟩) | (go_at_call 101; refine (qRight_any _ _ _ xs _ _ hm (h.below hb)).mono ?_; rw [hr.out]; rintro e w' ⟨rfl, rfl⟩))
    go_ret
    exact ⟨rfl, hb⟩
  cases hr' : rightL ys
  all_goals
    replace hr := hid_mk hr
    replace hr' := hid_mk hr'
    go_enter Tryz.func85, Tryz.ntmps85
    go_wp2_with fail
    refine (both_any _ _ _ _ _ _ _).mono ?_
    rintro e w' ⟨rfl, rfl⟩
    go_wp2_with fail
    refine (manyBoth_any _ _ _ xs _ _ _ ys _ _ hm hm' h h').mono ?_
    rintro e w' ⟨rfl, hb⟩
    go_wp2_with fail
    refine (qRight_any _ _ _ xs _ _ hm (h.below hb)).mono ?_
    rw [hr.out]
    rintro e w' ⟨rfl, rfl⟩
    go_wp2_with fail
    refine (qRight_any _ _ _ ys _ _ hm' (h'.below hb)).mono ?_
    rw [hr'.out]
    rintro e w' ⟨rfl, rfl⟩
    go_wp2
    go_ret
    exact ⟨ret_bool (by first | rfl | (simp only [Bool.true_and, Bool.eq_iff_iff]; simp)), hb⟩
end Go.Proofs.YtncdjmpdbinanaaGreatDoor
