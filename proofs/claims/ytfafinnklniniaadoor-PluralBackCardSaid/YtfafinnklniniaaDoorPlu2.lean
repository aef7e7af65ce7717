/-
  WHAT IS PROVED HERE: which rules may be: what plural.Right hands back. Conditions: at most 2^43 elements a slice.
-/
import Derived.Test.YtfafinnklniniaaDoorPlu1
namespace Go.Proofs.YtfafinnklniniaaDoor
open Go.RowKit

theorem Right11_any (x : Rl) (v : Sl) (w : World) (B : Nat) (hn : v.2.1 ≤ 8796093022208) (h : Spans w B v.1 v.2.1 x.spans) :
    Calls Tryd.prog 17 #[.agg #[.int .i64 x.mod, .bool x.not, slV v]] w fun e w' => e = .returned (.bool (!relOk x)) ∧ Below w.heap.size w w' := by
  have hb1 : Hid (Below w.heap.size w (w.alloc (.cells #[.int .i64 x.mod, .bool x.not, slV v] 37))) := (Below.refl _ w).alloc (Nat.le_refl _) _
  obtain ⟨y, hy⟩ : ∃ y, relOk x = y := ⟨_, rfl⟩
  rw [hy]
  replace hy := hid_mk hy
  refine calls_of_wpQ Tryd.func17 rfl ?_
  intro Q hQ
  simp only [Tryd.ntmps17, List.size_toArray, List.length_cons, List.length_nil, Nat.reduceAdd, Nat.reduceSub, Array.replicate_succ, Array.replicate_zero, List.push_toArray, List.append_toArray, List.nil_append, List.cons_append]
  go_wp2_with fail
  refine (rel_sl x v _ B hn (h.to hb1.out)).mono ?_
  rw [hy.out]
  rintro e w2 ⟨rfl, hb2⟩
  have q2 := hid_mk (after (w := w) hb2 hb1.out).1
  clear hb2
  go_wp2
  refine ends_ret hQ (results_tmp rfl _ _ _) rfl ?_
  exact ⟨rfl, q2.out⟩
set_option maxHeartbeats 800000 in
theorem Idx_right11 (l : List Rl) (A : Option Addr) (n cap : Nat) (w : World) (B : Nat) (hn : n ≤ 8796093022208) (h : Rels w B A n l) :
    Calls Tryd.prog 28 #[.slice A n cap, .func (.func 17) #[] #[]] w fun e w' => e = .returned (.int .i64 (fidx (fun s => !relOk s) 0 l)) ∧ Below w.heap.size w w' := by
  have hlen := hid_mk h.len
  obtain ⟨R, hR⟩ : ∃ R, fidx (fun s => !relOk s) 0 l = R := ⟨_, rfl⟩
  have hR0 : Hid (R = fidx (fun s => !relOk s) 0 (l.drop 0)) := by rw [Hid, List.drop_zero, hR]
  rw [hR]
  replace hR := hid_mk hR
  refine calls_of_wpQ Tryd.func28 rfl ?_
  intro Q hQ
  simp only [Tryd.ntmps28, List.size_toArray, List.length_cons, List.length_nil, Nat.reduceAdd, Nat.reduceSub, Array.replicate_succ, Array.replicate_zero, List.push_toArray, List.append_toArray, List.nil_append, List.cons_append]
  go_wp2
  go_loopw [8] (fun iv wr => ∃ k : Nat, iv = .int .i64 k ∧ k ≤ n ∧ Hid (R = fidx (fun s => !relOk s) k (l.drop k)) ∧ Hid (Below w.heap.size w wr)) (fun iv _ => n - (intOf iv).toNat)
  case atStart => exact ⟨0, rfl, Nat.zero_le _, hR0, hid_mk (Below.refl _ _)⟩
  case round =>
    obtain ⟨k, rfl, hk, hRk, hb⟩ := hrel
    by_cases hlt : k < n
    · obtain ⟨b, o, s, v, rfl, hbl, hd, c0, c1, c2, hsub, hvn⟩ := (h.to hb.out).at_ hlt
      have k0 : (0 : Int) ≤ k := by omega
      have k1 : (k : Int) < n := by omega
      cases hp : (fun s => !relOk s) s
      · have hRn : Hid (R = fidx (fun s => !relOk s) (k + 1) (l.drop (k + 1))) := by rw [Hid, hRk.out, hd.out, fidx]; exact if_neg (fun e => absurd (hp.symm.trans e) (by decide))
        replace hp := hid_mk hp
        go_wp2_with fail
        refine (Right11_any s v _ B hvn hsub).mono ?_
        rw [hp.out]
        rintro e w2 ⟨rfl, hb2⟩
        have q2 := hid_mk (after (w := w) hb2 hb.out).1
        clear hb2
        go_wp2
        go_roundw
        case rel => exact ⟨k + 1, by go_num, by omega, hRn, q2⟩
        case measure => simp [intOf]; omega
      · have hRn : Hid (R = (k : Int)) := by rw [Hid, hRk.out, hd.out, fidx]; exact if_pos hp
        replace hp := hid_mk hp
        go_wp2_with fail
        refine (Right11_any s v _ B hvn hsub).mono ?_
        rw [hp.out]
        rintro e w2 ⟨rfl, hb2⟩
        have q2 := hid_mk (after (w := w) hb2 hb.out).1
        clear hb2
        go_wp2
        refine ends_ret hQ (results_tmp rfl _ _ _) rfl ?_
        exact ⟨by rw [hRn.out]; rfl, q2.out⟩
    · have hRn : Hid (R = -1) := by rw [Hid, hRk.out, h.end_ hlt]; rfl
      go_wp2
      refine ends_ret hQ (results_tmp rfl _ _ _) rfl ?_
      exact ⟨by rw [hRn.out]; rfl, hb.out⟩
theorem Con_right11 (l : List Rl) (A : Option Addr) (n cap : Nat) (w : World) (B : Nat) (hn : n ≤ 8796093022208) (h : Rels w B A n l) :
    Calls Tryd.prog 16 #[.slice A n cap, .func (.func 17) #[] #[]] w fun e w' => e = .returned (.bool (l.any (fun s => !relOk s))) ∧ Below w.heap.size w w' := by
  have ha := fidx_any (fun s => !relOk s) l 0
  obtain ⟨R, hR⟩ : ∃ R, fidx (fun s => !relOk s) 0 l = R := ⟨_, rfl⟩
  rw [hR] at ha
  rw [← ha]
  replace hR := hid_mk hR
  clear ha
  refine calls_of_wpQ Tryd.func16 rfl ?_
  intro Q hQ
  simp only [Tryd.ntmps16, List.size_toArray, List.length_cons, List.length_nil, Nat.reduceAdd, Nat.reduceSub, Array.replicate_succ, Array.replicate_zero, List.push_toArray, List.append_toArray, List.nil_append, List.cons_append]
  go_wp2_with fail
  refine (Idx_right11 l A n cap w B hn h).mono ?_
  rw [hR.out]
  rintro e w2 ⟨rfl, hb2⟩
  go_wp2
  refine ends_ret hQ (results_tmp rfl _ _ _) rfl ?_
  exact ⟨ret_bool (by simp), hb2⟩

set_option maxHeartbeats 800000 in
theorem Right1_any (l : List Rl) (v : Sl) (w : World) (B : Nat) (hn : v.2.1 ≤ 8796093022208) (h : Rels w B v.1 v.2.1 l) :
    Calls Tryd.prog 15 #[slV v] w fun e w' => e = .returned (.bool (!rowOk l)) ∧ Below w.heap.size w w' := by
  obtain ⟨A, n, cap⟩ := v
  unfold slV
  dsimp only at *
  have hlen := hid_mk h.len
  by_cases hl1 : n < 1
  · have hf : rowOk l = false := by unfold rowOk; rw [hlen.out, show decide (1 ≤ n ∧ n ≤ 10) = false by simp; omega]; simp
    rw [hf]
    clear hf
    refine calls_of_wpQ Tryd.func15 rfl ?_
    intro Q hQ
    simp only [Tryd.ntmps15, List.size_toArray, List.length_cons, List.length_nil, Nat.reduceAdd, Nat.reduceSub, Array.replicate_succ, Array.replicate_zero, List.push_toArray, List.append_toArray, List.nil_append, List.cons_append]
    go_wp2
    refine ends_ret hQ (results_tmp rfl _ _ _) rfl ?_
    exact ⟨rfl, Below.refl _ _⟩
  by_cases hl2 : 10 < n
  · have hf : rowOk l = false := by unfold rowOk; rw [hlen.out, show decide (1 ≤ n ∧ n ≤ 10) = false by simp; omega]; simp
    rw [hf]
    clear hf
    refine calls_of_wpQ Tryd.func15 rfl ?_
    intro Q hQ
    simp only [Tryd.ntmps15, List.size_toArray, List.length_cons, List.length_nil, Nat.reduceAdd, Nat.reduceSub, Array.replicate_succ, Array.replicate_zero, List.push_toArray, List.append_toArray, List.nil_append, List.cons_append]
    go_wp2
    refine ends_ret hQ (results_tmp rfl _ _ _) rfl ?_
    exact ⟨rfl, Below.refl _ _⟩
  have hf : rowOk l = !(l.any fun s => !relOk s) := by unfold rowOk; rw [hlen.out, show decide (1 ≤ n ∧ n ≤ 10) = true by simp; omega, ← all_not_any]; simp
  rw [hf]
  obtain ⟨v, hv⟩ : ∃ v, l.any (fun s => !relOk s) = v := ⟨_, rfl⟩
  rw [hv]
  replace hv := hid_mk hv
  clear hf
  refine calls_of_wpQ Tryd.func15 rfl ?_
  intro Q hQ
  simp only [Tryd.ntmps15, List.size_toArray, List.length_cons, List.length_nil, Nat.reduceAdd, Nat.reduceSub, Array.replicate_succ, Array.replicate_zero, List.push_toArray, List.append_toArray, List.nil_append, List.cons_append]
  go_wp2_with fail
  refine (Con_right11 l A n cap _ B hn h).mono ?_
  rw [hv.out]
  rintro e w2 ⟨rfl, hb2⟩
  go_wp2
  refine ends_ret hQ (results_tmp rfl _ _ _) rfl ?_
  exact ⟨ret_bool (by simp; intro hh; exact absurd hh (by omega)), hb2⟩
set_option maxHeartbeats 800000 in
theorem Idx_right1 (l : List (List Rl)) (A : Option Addr) (n cap : Nat) (w : World) (B : Nat) (hn : n ≤ 8796093022208) (h : Rule w B A n l) :
    Calls Tryd.prog 27 #[.slice A n cap, .func (.func 15) #[] #[]] w fun e w' => e = .returned (.int .i64 (fidx (fun s => !rowOk s) 0 l)) ∧ Below w.heap.size w w' := by
  have hlen := hid_mk h.len
  obtain ⟨R, hR⟩ : ∃ R, fidx (fun s => !rowOk s) 0 l = R := ⟨_, rfl⟩
  have hR0 : Hid (R = fidx (fun s => !rowOk s) 0 (l.drop 0)) := by rw [Hid, List.drop_zero, hR]
  rw [hR]
  replace hR := hid_mk hR
  refine calls_of_wpQ Tryd.func27 rfl ?_
  intro Q hQ
  simp only [Tryd.ntmps27, List.size_toArray, List.length_cons, List.length_nil, Nat.reduceAdd, Nat.reduceSub, Array.replicate_succ, Array.replicate_zero, List.push_toArray, List.append_toArray, List.nil_append, List.cons_append]
  go_wp2
  go_loopw [8] (fun iv wr => ∃ k : Nat, iv = .int .i64 k ∧ k ≤ n ∧ Hid (R = fidx (fun s => !rowOk s) k (l.drop k)) ∧ Hid (Below w.heap.size w wr)) (fun iv _ => n - (intOf iv).toNat)
  case atStart => exact ⟨0, rfl, Nat.zero_le _, hR0, hid_mk (Below.refl _ _)⟩
  case round =>
    obtain ⟨k, rfl, hk, hRk, hb⟩ := hrel
    by_cases hlt : k < n
    · obtain ⟨b, o, s, v, rfl, hbl, hd, c0, hsub, hvn⟩ := (h.to hb.out).at_ hlt
      have k0 : (0 : Int) ≤ k := by omega
      have k1 : (k : Int) < n := by omega
      cases hp : (fun s => !rowOk s) s
      · have hRn : Hid (R = fidx (fun s => !rowOk s) (k + 1) (l.drop (k + 1))) := by rw [Hid, hRk.out, hd.out, fidx]; exact if_neg (fun e => absurd (hp.symm.trans e) (by decide))
        replace hp := hid_mk hp
        go_wp2_with fail
        refine (Right1_any s v _ B hvn hsub).mono ?_
        rw [hp.out]
        rintro e w2 ⟨rfl, hb2⟩
        have q2 := hid_mk (after (w := w) hb2 hb.out).1
        clear hb2
        go_wp2
        go_roundw
        case rel => exact ⟨k + 1, by go_num, by omega, hRn, q2⟩
        case measure => simp [intOf]; omega
      · have hRn : Hid (R = (k : Int)) := by rw [Hid, hRk.out, hd.out, fidx]; exact if_pos hp
        replace hp := hid_mk hp
        go_wp2_with fail
        refine (Right1_any s v _ B hvn hsub).mono ?_
        rw [hp.out]
        rintro e w2 ⟨rfl, hb2⟩
        have q2 := hid_mk (after (w := w) hb2 hb.out).1
        clear hb2
        go_wp2
        refine ends_ret hQ (results_tmp rfl _ _ _) rfl ?_
        exact ⟨by rw [hRn.out]; rfl, q2.out⟩
    · have hRn : Hid (R = -1) := by rw [Hid, hRk.out, h.end_ hlt]; rfl
      go_wp2
      refine ends_ret hQ (results_tmp rfl _ _ _) rfl ?_
      exact ⟨by rw [hRn.out]; rfl, hb.out⟩
theorem Con_right1 (l : List (List Rl)) (A : Option Addr) (n cap : Nat) (w : World) (B : Nat) (hn : n ≤ 8796093022208) (h : Rule w B A n l) :
    Calls Tryd.prog 14 #[.slice A n cap, .func (.func 15) #[] #[]] w fun e w' => e = .returned (.bool (l.any (fun s => !rowOk s))) ∧ Below w.heap.size w w' := by
  have ha := fidx_any (fun s => !rowOk s) l 0
  obtain ⟨R, hR⟩ : ∃ R, fidx (fun s => !rowOk s) 0 l = R := ⟨_, rfl⟩
  rw [hR] at ha
  rw [← ha]
  replace hR := hid_mk hR
  clear ha
  refine calls_of_wpQ Tryd.func14 rfl ?_
  intro Q hQ
  simp only [Tryd.ntmps14, List.size_toArray, List.length_cons, List.length_nil, Nat.reduceAdd, Nat.reduceSub, Array.replicate_succ, Array.replicate_zero, List.push_toArray, List.append_toArray, List.nil_append, List.cons_append]
  go_wp2_with fail
  refine (Idx_right1 l A n cap w B hn h).mono ?_
  rw [hR.out]
  rintro e w2 ⟨rfl, hb2⟩
  go_wp2
  refine ends_ret hQ (results_tmp rfl _ _ _) rfl ?_
  exact ⟨ret_bool (by simp), hb2⟩

set_option maxHeartbeats 800000 in
theorem Right_any (l : List (List Rl)) (A : Option Addr) (n cap : Nat) (w : World) (B : Nat) (hn : n ≤ 8796093022208) (h : Rule w B A n l) :
    Calls Tryd.prog 6 #[.slice A n cap] w fun e w' => e = .returned (.bool (ruleOk l)) ∧ Below w.heap.size w w' := by
  have hlen := hid_mk h.len
  by_cases hl1 : n < 1
  · have hf : ruleOk l = false := by unfold ruleOk; rw [hlen.out, show decide (1 ≤ n ∧ n ≤ 10) = false by simp; omega]; simp
    rw [hf]
    clear hf
    refine calls_of_wpQ Tryd.func6 rfl ?_
    intro Q hQ
    simp only [Tryd.ntmps6, List.size_toArray, List.length_cons, List.length_nil, Nat.reduceAdd, Nat.reduceSub, Array.replicate_succ, Array.replicate_zero, List.push_toArray, List.append_toArray, List.nil_append, List.cons_append]
    go_wp2
    refine ends_ret hQ (results_tmp rfl _ _ _) rfl ?_
    exact ⟨rfl, Below.refl _ _⟩
  by_cases hl2 : 10 < n
  · have hf : ruleOk l = false := by unfold ruleOk; rw [hlen.out, show decide (1 ≤ n ∧ n ≤ 10) = false by simp; omega]; simp
    rw [hf]
    clear hf
    refine calls_of_wpQ Tryd.func6 rfl ?_
    intro Q hQ
    simp only [Tryd.ntmps6, List.size_toArray, List.length_cons, List.length_nil, Nat.reduceAdd, Nat.reduceSub, Array.replicate_succ, Array.replicate_zero, List.push_toArray, List.append_toArray, List.nil_append, List.cons_append]
    go_wp2
    refine ends_ret hQ (results_tmp rfl _ _ _) rfl ?_
    exact ⟨rfl, Below.refl _ _⟩
  have hf : ruleOk l = !(l.any fun s => !rowOk s) := by unfold ruleOk; rw [hlen.out, show decide (1 ≤ n ∧ n ≤ 10) = true by simp; omega, ← all_not_any]; simp
  rw [hf]
  obtain ⟨v, hv⟩ : ∃ v, l.any (fun s => !rowOk s) = v := ⟨_, rfl⟩
  rw [hv]
  replace hv := hid_mk hv
  clear hf
  refine calls_of_wpQ Tryd.func6 rfl ?_
  intro Q hQ
  simp only [Tryd.ntmps6, List.size_toArray, List.length_cons, List.length_nil, Nat.reduceAdd, Nat.reduceSub, Array.replicate_succ, Array.replicate_zero, List.push_toArray, List.append_toArray, List.nil_append, List.cons_append]
  go_wp2_with fail
  refine (Con_right1 l A n cap _ B hn h).mono ?_
  rw [hv.out]
  rintro e w2 ⟨rfl, hb2⟩
  go_wp2
  refine ends_ret hQ (results_tmp rfl _ _ _) rfl ?_
  exact ⟨rfl, hb2⟩
end Go.Proofs.YtfafinnklniniaaDoor
