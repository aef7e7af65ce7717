/-
  WHAT IS PROVED HERE: whether a rule that may be holds of an amount: what plural.holds and plural.Holds hand back. Conditions: at most 2^43 elements a slice.
-/
import Derived.Test.YtfafinnklniniaaDoorPlu2
namespace Go.Proofs.YtfafinnklniniaaDoor
open Go.RowKit

theorem span_ok {s : Int × Int} (h : spanOk s = true) : 0 ≤ s.1 ∧ s.1 ≤ s.2 ∧ s.2 ≤ 1000000 := by
  unfold spanOk at h
  simp at h
  omega
set_option maxHeartbeats 400000 in
theorem holds1_any (s : Int × Int) (m : Int) (g : Nat) (w : World) (_hm0 : 0 ≤ m) (_hm1 : m < 18446744073709551616) (hg : w.cell? ⟨g, 0, none⟩ = some (.int .u64 m)) (hok : spanOk s = true) :
    Calls Tryd.prog 47 #[.agg #[.int .i64 s.1, .int .i64 s.2], .pointer (some ⟨g, 0, none⟩)] w fun e w' => e = .returned (.bool (inSpan m s)) ∧ Below w.heap.size w w' := by
  obtain ⟨lo, hi⟩ := s
  obtain ⟨h1, h2, h3⟩ := span_ok hok
  dsimp only at *
  clear hok
  have hlt := cell_lt_ hg
  dsimp only at hlt
  have hb1 : Below w.heap.size w (w.alloc (.cells #[.int .i64 lo, .int .i64 hi] 45)) := (Below.refl _ w).alloc (Nat.le_refl _) _
  have hgr := (hb1.cell (p := ⟨g, 0, none⟩) hlt).trans hg
  have w1 : IntKind.u64.wrap lo = lo := IntWalk.u64_in _ (by omega)
  have w2 : IntKind.u64.wrap hi = hi := IntWalk.u64_in _ (by omega)
  by_cases k1 : lo ≤ m
  · by_cases k2 : m ≤ hi
    · refine calls_of_wpQ Tryd.func47 rfl ?_
      intro Q hQ
      simp only [Tryd.ntmps47, List.size_toArray, List.length_cons, List.length_nil, Nat.reduceAdd, Nat.reduceSub, Array.replicate_succ, Array.replicate_zero, List.push_toArray, List.append_toArray, List.nil_append, List.cons_append]
      go_wp2
      refine ends_ret hQ (results_tmp rfl _ _ _) rfl ?_
      exact ⟨ret_bool (by unfold inSpan; simp [k1, k2]), hb1⟩
    · refine calls_of_wpQ Tryd.func47 rfl ?_
      intro Q hQ
      simp only [Tryd.ntmps47, List.size_toArray, List.length_cons, List.length_nil, Nat.reduceAdd, Nat.reduceSub, Array.replicate_succ, Array.replicate_zero, List.push_toArray, List.append_toArray, List.nil_append, List.cons_append]
      go_wp2
      refine ends_ret hQ (results_tmp rfl _ _ _) rfl ?_
      exact ⟨ret_bool (by unfold inSpan; first | (simp; done) | (simp; omega) | (simp [k1, k2]; done)), hb1⟩
  · refine calls_of_wpQ Tryd.func47 rfl ?_
    intro Q hQ
    simp only [Tryd.ntmps47, List.size_toArray, List.length_cons, List.length_nil, Nat.reduceAdd, Nat.reduceSub, Array.replicate_succ, Array.replicate_zero, List.push_toArray, List.append_toArray, List.nil_append, List.cons_append]
    go_wp2
    refine ends_ret hQ (results_tmp rfl _ _ _) rfl ?_
    exact ⟨ret_bool (by unfold inSpan; first | (simp; done) | (simp; omega) | (simp [k1]; done)), hb1⟩
set_option maxHeartbeats 800000 in
theorem Idx_holds1 (l : List (Int × Int)) (A : Option Addr) (n cap : Nat) (w : World) (B : Nat) (m : Int) (g : Nat) (hm0 : 0 ≤ m) (hm1 : m < 18446744073709551616) (hg : w.cell? ⟨g, 0, none⟩ = some (.int .u64 m)) (hn : n ≤ 8796093022208) (h : Spans w B A n l) (hok : ∀ s ∈ l, spanOk s = true) :
    Calls Tryd.prog 39 #[.slice A n cap, .func (.func 47) #[] #[.pointer (some ⟨g, 0, none⟩)]] w fun e w' => e = .returned (.int .i64 (fidx (inSpan m) 0 l)) ∧ Below w.heap.size w w' := by
  have hlen := hid_mk h.len
  obtain ⟨R, hR⟩ : ∃ R, fidx (inSpan m) 0 l = R := ⟨_, rfl⟩
  have hR0 : Hid (R = fidx (inSpan m) 0 (l.drop 0)) := by rw [Hid, List.drop_zero, hR]
  rw [hR]
  replace hR := hid_mk hR
  refine calls_of_wpQ Tryd.func39 rfl ?_
  intro Q hQ
  simp only [Tryd.ntmps39, List.size_toArray, List.length_cons, List.length_nil, Nat.reduceAdd, Nat.reduceSub, Array.replicate_succ, Array.replicate_zero, List.push_toArray, List.append_toArray, List.nil_append, List.cons_append]
  go_wp2
  go_loopw [8] (fun iv wr => ∃ k : Nat, iv = .int .i64 k ∧ k ≤ n ∧ Hid (R = fidx (inSpan m) k (l.drop k)) ∧ Hid (Below w.heap.size w wr)) (fun iv _ => n - (intOf iv).toNat)
  case atStart => exact ⟨0, rfl, Nat.zero_le _, hR0, hid_mk (Below.refl _ _)⟩
  case round =>
    obtain ⟨k, rfl, hk, hRk, hb⟩ := hrel
    by_cases hlt : k < n
    · obtain ⟨b, o, s, rfl, hbl, hd, c0, c1⟩ := (h.to hb.out).at_ hlt
      have k0 : (0 : Int) ≤ k := by omega
      have k1 : (k : Int) < n := by omega
      have hmem : s ∈ l := List.mem_of_mem_drop (show s ∈ l.drop k by rw [hd.out]; exact List.mem_cons_self ..)
      have hgr := (hb.out.cell (p := ⟨g, 0, none⟩) (cell_lt_ hg)).trans hg
      cases hp : (inSpan m) s
      · have hRn : Hid (R = fidx (inSpan m) (k + 1) (l.drop (k + 1))) := by rw [Hid, hRk.out, hd.out, fidx]; exact if_neg (fun e => absurd (hp.symm.trans e) (by decide))
        replace hp := hid_mk hp
        go_wp2_with fail
        refine (holds1_any s m g _ hm0 hm1 hgr (hok s hmem)).mono ?_
        rw [hp.out]
        rintro e w2 ⟨rfl, hb2⟩
        have q2 := hid_mk (after (w := w) hb2 hb.out).1
        clear hb2
        go_wp2
        go_roundw
        case rel => exact ⟨k + 1, by go_num, by omega, hRn, q2⟩
        case measure => simp [intOf]; omega
      · have hRn : Hid (R = (k : Int)) := by rw [Hid, hRk.out, hd.out, fidx]; exact if_pos hp
        replace hp := hid_mk hp
        go_wp2_with fail
        refine (holds1_any s m g _ hm0 hm1 hgr (hok s hmem)).mono ?_
        rw [hp.out]
        rintro e w2 ⟨rfl, hb2⟩
        have q2 := hid_mk (after (w := w) hb2 hb.out).1
        clear hb2
        go_wp2
        refine ends_ret hQ (results_tmp rfl _ _ _) rfl ?_
        exact ⟨by rw [hRn.out]; rfl, q2.out⟩
    · have hRn : Hid (R = -1) := by rw [Hid, hRk.out, h.end_ hlt]; rfl
      go_wp2
      refine ends_ret hQ (results_tmp rfl _ _ _) rfl ?_
      exact ⟨by rw [hRn.out]; rfl, hb.out⟩
theorem Con_holds1 (l : List (Int × Int)) (A : Option Addr) (n cap : Nat) (w : World) (B : Nat) (m : Int) (g : Nat) (hm0 : 0 ≤ m) (hm1 : m < 18446744073709551616) (hg : w.cell? ⟨g, 0, none⟩ = some (.int .u64 m)) (hn : n ≤ 8796093022208) (h : Spans w B A n l) (hok : ∀ s ∈ l, spanOk s = true) :
    Calls Tryd.prog 29 #[.slice A n cap, .func (.func 47) #[] #[.pointer (some ⟨g, 0, none⟩)]] w fun e w' => e = .returned (.bool (l.any (inSpan m))) ∧ Below w.heap.size w w' := by
  have ha := fidx_any (inSpan m) l 0
  obtain ⟨R, hR⟩ : ∃ R, fidx (inSpan m) 0 l = R := ⟨_, rfl⟩
  rw [hR] at ha
  rw [← ha]
  replace hR := hid_mk hR
  clear ha
  refine calls_of_wpQ Tryd.func29 rfl ?_
  intro Q hQ
  simp only [Tryd.ntmps29, List.size_toArray, List.length_cons, List.length_nil, Nat.reduceAdd, Nat.reduceSub, Array.replicate_succ, Array.replicate_zero, List.push_toArray, List.append_toArray, List.nil_append, List.cons_append]
  go_wp2_with fail
  refine (Idx_holds1 l A n cap w B m g hm0 hm1 hg hn h hok).mono ?_
  rw [hR.out]
  rintro e w2 ⟨rfl, hb2⟩
  go_wp2
  refine ends_ret hQ (results_tmp rfl _ _ _) rfl ?_
  exact ⟨ret_bool (by simp), hb2⟩

theorem rel_ok {x : Rl} (h : relOk x = true) : (x.mod = 0 ∨ (2 ≤ x.mod ∧ x.mod ≤ 1000000)) ∧ ∀ s ∈ x.spans, spanOk s = true := by
  unfold relOk at h
  simp only [Bool.and_eq_true, decide_eq_true_eq, List.all_eq_true] at h
  exact ⟨h.1.1, h.2⟩
set_option maxHeartbeats 800000 in
theorem holds_any (x : Rl) (v : Sl) (m : Int) (w : World) (B : Nat) (hn : v.2.1 ≤ 8796093022208) (hm0 : 0 ≤ m) (hm1 : m < 18446744073709551616) (h : Spans w B v.1 v.2.1 x.spans) (hok : relOk x = true) :
    Calls Tryd.prog 43 #[.agg #[.int .i64 x.mod, .bool x.not, slV v], .int .u64 m] w fun e w' => e = .returned (.bool (relHolds m x)) ∧ Below w.heap.size w w' := by
  obtain ⟨A, n, cap⟩ := v
  obtain ⟨mod, not, sps⟩ := x
  obtain ⟨hmod, hsps⟩ := rel_ok hok
  unfold slV
  dsimp only at *
  clear hok
  have hmf : ∀ (fn : Fn) (first cap : Array Value) (w : World), (Instr.makeFunc fn first cap).run Tryd.prog w = .ok (.func fn first cap) w := fun _ _ _ _ => rfl
  obtain ⟨y, hy⟩ : ∃ y, relHolds m ⟨mod, not, sps⟩ = y := ⟨_, rfl⟩
  rw [hy]
  have hb0 : Below w.heap.size w (w.alloc (.cells #[.int .i64 mod, .bool not, .slice A n cap] 37)) := (Below.refl _ w).alloc (Nat.le_refl _) _
  have hX0 := Blk.new w 37 #[.int .i64 mod, .bool not, .slice A n cap]
  have hb1 : Below w.heap.size w ((w.alloc (.cells #[.int .i64 mod, .bool not, .slice A n cap] 37)).alloc (.cells #[.int .u64 m] 77)) := hb0.alloc hb0.size _
  have hX := hX0.alloc (.cells #[.int .u64 m] 77)
  have hY : Blk ((w.alloc (.cells #[.int .i64 mod, .bool not, .slice A n cap] 37)).alloc (.cells #[.int .u64 m] 77)) (w.heap.size + 1) 77 #[.int .u64 m] := by
    have h1 := Blk.new (w.alloc (.cells #[.int .i64 mod, .bool not, .slice A n cap] 37)) 77 #[.int .u64 m]
    rw [World.size_alloc] at h1
    exact h1
  clear hX0 hb0
  by_cases hpos : 0 < mod
  · have hy2 : Hid (y = (sps.any (inSpan (m % mod)) != not)) := by rw [Hid, ← hy]; unfold relHolds restOf; simp [hpos]
    replace hy := hid_mk hy
    have wm : IntKind.u64.wrap mod = mod := IntWalk.u64_in _ (by omega)
    have hr0 : 0 ≤ m % mod := Int.emod_nonneg _ (by omega)
    have hr1 : m % mod < mod := Int.emod_lt_of_pos _ hpos
    have hrt : m.tmod mod = m % mod := Int.tmod_eq_emod_of_nonneg hm0
    have hwr : IntKind.u64.wrap (m % mod) = m % mod := IntWalk.u64_in _ (by omega)
    have hwr2 : IntKind.u64.wrap (m.tmod mod) = m % mod := by rw [hrt, hwr]
    have hm00 : ¬ mod = 0 := by omega
    have hm00b : (mod == 0) = false := by simpa using hm00
    have hne : ¬ w.heap.size + 1 = w.heap.size := by omega
    have hb2 : Below w.heap.size w ((w.alloc (.cells #[.int .i64 mod, .bool not, .slice A n cap] 37)).alloc (.cells #[.int .u64 (m % mod)] 77)) := ((Below.refl _ w).alloc (Nat.le_refl _) _).alloc (by simp) _
    have hX2 := (Blk.new w 37 #[.int .i64 mod, .bool not, .slice A n cap]).alloc (.cells #[.int .u64 (m % mod)] 77)
    have hY2 : Blk ((w.alloc (.cells #[.int .i64 mod, .bool not, .slice A n cap] 37)).alloc (.cells #[.int .u64 (m % mod)] 77)) (w.heap.size + 1) 77 #[.int .u64 (m % mod)] := by
      have h1 := Blk.new (w.alloc (.cells #[.int .i64 mod, .bool not, .slice A n cap] 37)) 77 #[.int .u64 (m % mod)]
      rw [World.size_alloc] at h1
      exact h1
    have hgc := hY2.cell 0
    obtain ⟨z, hz⟩ : ∃ z, sps.any (inSpan (m % mod)) = z := ⟨_, rfl⟩
    rw [hz] at hy2
    replace hz := hid_mk hz
    replace hb2 := hid_mk hb2
    refine calls_of_wpQ Tryd.func43 rfl ?_
    intro Q hQ
    simp only [Tryd.ntmps43, List.size_toArray, List.length_cons, List.length_nil, Nat.reduceAdd, Nat.reduceSub, Array.replicate_succ, Array.replicate_zero, List.push_toArray, List.append_toArray, List.nil_append, List.cons_append]
    go_wp2_with fail
    refine (Con_holds1 sps A n cap _ B (m % mod) (w.heap.size + 1) hr0 (by omega) (by simp) hn (h.to hb2.out) hsps).mono ?_
    rw [hz.out]
    rintro e w2 ⟨rfl, hb3⟩
    have q2 := hid_mk (after (w := w) hb3 hb2.out).1
    have hX3 := (hX2.keep hb3).cell 1
    clear hb3
    go_wp2
    refine ends_ret hQ (results_tmp rfl _ _ _) rfl ?_
    exact ⟨ret_bool (by rw [hy2.out]; cases z <;> cases not <;> rfl), q2.out⟩
  · have hy2 : Hid (y = (sps.any (inSpan m) != not)) := by rw [Hid, ← hy]; unfold relHolds restOf; simp [hpos]
    replace hy := hid_mk hy
    have hgc := hY.cell 0
    obtain ⟨z, hz⟩ : ∃ z, sps.any (inSpan m) = z := ⟨_, rfl⟩
    rw [hz] at hy2
    replace hz := hid_mk hz
    replace hb1 := hid_mk hb1
    refine calls_of_wpQ Tryd.func43 rfl ?_
    intro Q hQ
    simp only [Tryd.ntmps43, List.size_toArray, List.length_cons, List.length_nil, Nat.reduceAdd, Nat.reduceSub, Array.replicate_succ, Array.replicate_zero, List.push_toArray, List.append_toArray, List.nil_append, List.cons_append]
    go_wp2_with fail
    refine (Con_holds1 sps A n cap _ B m (w.heap.size + 1) hm0 hm1 (by simp) hn (h.to hb1.out) hsps).mono ?_
    rw [hz.out]
    rintro e w2 ⟨rfl, hb3⟩
    have q2 := hid_mk (after (w := w) hb3 hb1.out).1
    have hX3 := (hX.keep hb3).cell 1
    clear hb3
    go_wp2
    refine ends_ret hQ (results_tmp rfl _ _ _) rfl ?_
    exact ⟨ret_bool (by rw [hy2.out]; cases z <;> cases not <;> rfl), q2.out⟩
theorem Holds11_any (x : Rl) (v : Sl) (m : Int) (g : Nat) (w : World) (B : Nat) (hm0 : 0 ≤ m) (hm1 : m < 18446744073709551616) (hg : w.cell? ⟨g, 0, none⟩ = some (.int .u64 m)) (hn : v.2.1 ≤ 8796093022208) (h : Spans w B v.1 v.2.1 x.spans) (hok : relOk x = true) :
    Calls Tryd.prog 42 #[.agg #[.int .i64 x.mod, .bool x.not, slV v], .pointer (some ⟨g, 0, none⟩)] w fun e w' => e = .returned (.bool (!relHolds m x)) ∧ Below w.heap.size w w' := by
  have hb1 : Below w.heap.size w (w.alloc (.cells #[.int .i64 x.mod, .bool x.not, slV v] 37)) := (Below.refl _ w).alloc (Nat.le_refl _) _
  have hgr := (hb1.cell (p := ⟨g, 0, none⟩) (cell_lt_ hg)).trans hg
  obtain ⟨y, hy⟩ : ∃ y, relHolds m x = y := ⟨_, rfl⟩
  rw [hy]
  replace hy := hid_mk hy
  replace hb1 := hid_mk hb1
  refine calls_of_wpQ Tryd.func42 rfl ?_
  intro Q hQ
  simp only [Tryd.ntmps42, List.size_toArray, List.length_cons, List.length_nil, Nat.reduceAdd, Nat.reduceSub, Array.replicate_succ, Array.replicate_zero, List.push_toArray, List.append_toArray, List.nil_append, List.cons_append]
  go_wp2_with fail
  refine (holds_any x v m _ B hn hm0 hm1 (h.to hb1.out) hok).mono ?_
  rw [hy.out]
  rintro e w2 ⟨rfl, hb2⟩
  have q2 := hid_mk (after (w := w) hb2 hb1.out).1
  clear hb2
  go_wp2
  refine ends_ret hQ (results_tmp rfl _ _ _) rfl ?_
  exact ⟨rfl, q2.out⟩
set_option maxHeartbeats 800000 in
theorem Idx_holds11 (l : List Rl) (A : Option Addr) (n cap : Nat) (w : World) (B : Nat) (m : Int) (g : Nat) (hm0 : 0 ≤ m) (hm1 : m < 18446744073709551616) (hg : w.cell? ⟨g, 0, none⟩ = some (.int .u64 m)) (hn : n ≤ 8796093022208) (h : Rels w B A n l) (hok : ∀ s ∈ l, relOk s = true) :
    Calls Tryd.prog 28 #[.slice A n cap, .func (.func 42) #[] #[.pointer (some ⟨g, 0, none⟩)]] w fun e w' => e = .returned (.int .i64 (fidx (fun s => !relHolds m s) 0 l)) ∧ Below w.heap.size w w' := by
  have hlen := hid_mk h.len
  obtain ⟨R, hR⟩ : ∃ R, fidx (fun s => !relHolds m s) 0 l = R := ⟨_, rfl⟩
  have hR0 : Hid (R = fidx (fun s => !relHolds m s) 0 (l.drop 0)) := by rw [Hid, List.drop_zero, hR]
  rw [hR]
  replace hR := hid_mk hR
  refine calls_of_wpQ Tryd.func28 rfl ?_
  intro Q hQ
  simp only [Tryd.ntmps28, List.size_toArray, List.length_cons, List.length_nil, Nat.reduceAdd, Nat.reduceSub, Array.replicate_succ, Array.replicate_zero, List.push_toArray, List.append_toArray, List.nil_append, List.cons_append]
  go_wp2
  go_loopw [8] (fun iv wr => ∃ k : Nat, iv = .int .i64 k ∧ k ≤ n ∧ Hid (R = fidx (fun s => !relHolds m s) k (l.drop k)) ∧ Hid (Below w.heap.size w wr)) (fun iv _ => n - (intOf iv).toNat)
  case atStart => exact ⟨0, rfl, Nat.zero_le _, hR0, hid_mk (Below.refl _ _)⟩
  case round =>
    obtain ⟨k, rfl, hk, hRk, hb⟩ := hrel
    by_cases hlt : k < n
    · obtain ⟨b, o, s, v, rfl, hbl, hd, c0, c1, c2, hsub, hvn⟩ := (h.to hb.out).at_ hlt
      have k0 : (0 : Int) ≤ k := by omega
      have k1 : (k : Int) < n := by omega
      have hmem : s ∈ l := List.mem_of_mem_drop (show s ∈ l.drop k by rw [hd.out]; exact List.mem_cons_self ..)
      have hgr := (hb.out.cell (p := ⟨g, 0, none⟩) (cell_lt_ hg)).trans hg
      cases hp : (fun s => !relHolds m s) s
      · have hRn : Hid (R = fidx (fun s => !relHolds m s) (k + 1) (l.drop (k + 1))) := by rw [Hid, hRk.out, hd.out, fidx]; exact if_neg (fun e => absurd (hp.symm.trans e) (by decide))
        replace hp := hid_mk hp
        go_wp2_with fail
        refine (Holds11_any s v m g _ B hm0 hm1 hgr hvn hsub (hok s hmem)).mono ?_
        rw [hp.out]
        rintro e w2 ⟨rfl, hb2⟩
        have q2 := hid_mk (after (w := w) hb2 hb.out).1
        clear hb2
        go_wp2
        go_roundw
        case rel => exact ⟨k + 1, by go_num, by omega, hRn, q2⟩
        case measure => simp [intOf]; omega
      · have hRn : Hid (R = (k : Int)) := by rw [Hid, hRk.out, hd.out, fidx]; exact if_pos hp
        replace hp := hid_mk hp
        go_wp2_with fail
        refine (Holds11_any s v m g _ B hm0 hm1 hgr hvn hsub (hok s hmem)).mono ?_
        rw [hp.out]
        rintro e w2 ⟨rfl, hb2⟩
        have q2 := hid_mk (after (w := w) hb2 hb.out).1
        clear hb2
        go_wp2
        refine ends_ret hQ (results_tmp rfl _ _ _) rfl ?_
        exact ⟨by rw [hRn.out]; rfl, q2.out⟩
    · have hRn : Hid (R = -1) := by rw [Hid, hRk.out, h.end_ hlt]; rfl
      go_wp2
      refine ends_ret hQ (results_tmp rfl _ _ _) rfl ?_
      exact ⟨by rw [hRn.out]; rfl, hb.out⟩
theorem Con_holds11 (l : List Rl) (A : Option Addr) (n cap : Nat) (w : World) (B : Nat) (m : Int) (g : Nat) (hm0 : 0 ≤ m) (hm1 : m < 18446744073709551616) (hg : w.cell? ⟨g, 0, none⟩ = some (.int .u64 m)) (hn : n ≤ 8796093022208) (h : Rels w B A n l) (hok : ∀ s ∈ l, relOk s = true) :
    Calls Tryd.prog 16 #[.slice A n cap, .func (.func 42) #[] #[.pointer (some ⟨g, 0, none⟩)]] w fun e w' => e = .returned (.bool (l.any (fun s => !relHolds m s))) ∧ Below w.heap.size w w' := by
  have ha := fidx_any (fun s => !relHolds m s) l 0
  obtain ⟨R, hR⟩ : ∃ R, fidx (fun s => !relHolds m s) 0 l = R := ⟨_, rfl⟩
  rw [hR] at ha
  rw [← ha]
  replace hR := hid_mk hR
  clear ha
  refine calls_of_wpQ Tryd.func16 rfl ?_
  intro Q hQ
  simp only [Tryd.ntmps16, List.size_toArray, List.length_cons, List.length_nil, Nat.reduceAdd, Nat.reduceSub, Array.replicate_succ, Array.replicate_zero, List.push_toArray, List.append_toArray, List.nil_append, List.cons_append]
  go_wp2_with fail
  refine (Idx_holds11 l A n cap w B m g hm0 hm1 hg hn h hok).mono ?_
  rw [hR.out]
  rintro e w2 ⟨rfl, hb2⟩
  go_wp2
  refine ends_ret hQ (results_tmp rfl _ _ _) rfl ?_
  exact ⟨ret_bool (by simp), hb2⟩

theorem row_ok {x : List Rl} (h : rowOk x = true) : ∀ s ∈ x, relOk s = true := by
  unfold rowOk at h
  simp only [Bool.and_eq_true, decide_eq_true_eq, List.all_eq_true] at h
  exact h.2
theorem rule_ok {x : List (List Rl)} (h : ruleOk x = true) : ∀ s ∈ x, rowOk s = true := by
  unfold ruleOk at h
  simp only [Bool.and_eq_true, decide_eq_true_eq, List.all_eq_true] at h
  exact h.2
theorem Holds1_any (l : List Rl) (v : Sl) (m : Int) (g : Nat) (w : World) (B : Nat) (hm0 : 0 ≤ m) (hm1 : m < 18446744073709551616) (hg : w.cell? ⟨g, 0, none⟩ = some (.int .u64 m)) (hn : v.2.1 ≤ 8796093022208) (h : Rels w B v.1 v.2.1 l) (hok : rowOk l = true) :
    Calls Tryd.prog 41 #[slV v, .pointer (some ⟨g, 0, none⟩)] w fun e w' => e = .returned (.bool (rowHolds m l)) ∧ Below w.heap.size w w' := by
  obtain ⟨A, n, cap⟩ := v
  unfold slV
  dsimp only at *
  have hmf : ∀ (fn : Fn) (first cap : Array Value) (w : World), (Instr.makeFunc fn first cap).run Tryd.prog w = .ok (.func fn first cap) w := fun _ _ _ _ => rfl
  obtain ⟨y, hy⟩ : ∃ y, l.any (fun s => !relHolds m s) = y := ⟨_, rfl⟩
  have hy2 : rowHolds m l = !y := by unfold rowHolds; rw [all_not_any, hy]
  rw [hy2]
  replace hy := hid_mk hy
  clear hy2
  refine calls_of_wpQ Tryd.func41 rfl ?_
  intro Q hQ
  simp only [Tryd.ntmps41, List.size_toArray, List.length_cons, List.length_nil, Nat.reduceAdd, Nat.reduceSub, Array.replicate_succ, Array.replicate_zero, List.push_toArray, List.append_toArray, List.nil_append, List.cons_append]
  go_wp2_with fail
  refine (Con_holds11 l A n cap _ B m g hm0 hm1 hg hn h (row_ok hok)).mono ?_
  rw [hy.out]
  rintro e w2 ⟨rfl, hb2⟩
  go_wp2
  refine ends_ret hQ (results_tmp rfl _ _ _) rfl ?_
  exact ⟨rfl, hb2⟩
set_option maxHeartbeats 800000 in
theorem Idx_holdsW (l : List (List Rl)) (A : Option Addr) (n cap : Nat) (w : World) (B : Nat) (m : Int) (g : Nat) (hm0 : 0 ≤ m) (hm1 : m < 18446744073709551616) (hg : w.cell? ⟨g, 0, none⟩ = some (.int .u64 m)) (hn : n ≤ 8796093022208) (h : Rule w B A n l) (hok : ∀ s ∈ l, rowOk s = true) :
    Calls Tryd.prog 27 #[.slice A n cap, .func (.func 41) #[] #[.pointer (some ⟨g, 0, none⟩)]] w fun e w' => e = .returned (.int .i64 (fidx (rowHolds m) 0 l)) ∧ Below w.heap.size w w' := by
  have hlen := hid_mk h.len
  obtain ⟨R, hR⟩ : ∃ R, fidx (rowHolds m) 0 l = R := ⟨_, rfl⟩
  have hR0 : Hid (R = fidx (rowHolds m) 0 (l.drop 0)) := by rw [Hid, List.drop_zero, hR]
  rw [hR]
  replace hR := hid_mk hR
  refine calls_of_wpQ Tryd.func27 rfl ?_
  intro Q hQ
  simp only [Tryd.ntmps27, List.size_toArray, List.length_cons, List.length_nil, Nat.reduceAdd, Nat.reduceSub, Array.replicate_succ, Array.replicate_zero, List.push_toArray, List.append_toArray, List.nil_append, List.cons_append]
  go_wp2
  go_loopw [8] (fun iv wr => ∃ k : Nat, iv = .int .i64 k ∧ k ≤ n ∧ Hid (R = fidx (rowHolds m) k (l.drop k)) ∧ Hid (Below w.heap.size w wr)) (fun iv _ => n - (intOf iv).toNat)
  case atStart => exact ⟨0, rfl, Nat.zero_le _, hR0, hid_mk (Below.refl _ _)⟩
  case round =>
    obtain ⟨k, rfl, hk, hRk, hb⟩ := hrel
    by_cases hlt : k < n
    · obtain ⟨b, o, s, v, rfl, hbl, hd, c0, hsub, hvn⟩ := (h.to hb.out).at_ hlt
      have k0 : (0 : Int) ≤ k := by omega
      have k1 : (k : Int) < n := by omega
      have hmem : s ∈ l := List.mem_of_mem_drop (show s ∈ l.drop k by rw [hd.out]; exact List.mem_cons_self ..)
      have hgr := (hb.out.cell (p := ⟨g, 0, none⟩) (cell_lt_ hg)).trans hg
      cases hp : (rowHolds m) s
      · have hRn : Hid (R = fidx (rowHolds m) (k + 1) (l.drop (k + 1))) := by rw [Hid, hRk.out, hd.out, fidx]; exact if_neg (fun e => absurd (hp.symm.trans e) (by decide))
        replace hp := hid_mk hp
        go_wp2_with fail
        refine (Holds1_any s v m g _ B hm0 hm1 hgr hvn hsub (hok s hmem)).mono ?_
        rw [hp.out]
        rintro e w2 ⟨rfl, hb2⟩
        have q2 := hid_mk (after (w := w) hb2 hb.out).1
        clear hb2
        go_wp2
        go_roundw
        case rel => exact ⟨k + 1, by go_num, by omega, hRn, q2⟩
        case measure => simp [intOf]; omega
      · have hRn : Hid (R = (k : Int)) := by rw [Hid, hRk.out, hd.out, fidx]; exact if_pos hp
        replace hp := hid_mk hp
        go_wp2_with fail
        refine (Holds1_any s v m g _ B hm0 hm1 hgr hvn hsub (hok s hmem)).mono ?_
        rw [hp.out]
        rintro e w2 ⟨rfl, hb2⟩
        have q2 := hid_mk (after (w := w) hb2 hb.out).1
        clear hb2
        go_wp2
        refine ends_ret hQ (results_tmp rfl _ _ _) rfl ?_
        exact ⟨by rw [hRn.out]; rfl, q2.out⟩
    · have hRn : Hid (R = -1) := by rw [Hid, hRk.out, h.end_ hlt]; rfl
      go_wp2
      refine ends_ret hQ (results_tmp rfl _ _ _) rfl ?_
      exact ⟨by rw [hRn.out]; rfl, hb.out⟩
theorem Con_holdsW (l : List (List Rl)) (A : Option Addr) (n cap : Nat) (w : World) (B : Nat) (m : Int) (g : Nat) (hm0 : 0 ≤ m) (hm1 : m < 18446744073709551616) (hg : w.cell? ⟨g, 0, none⟩ = some (.int .u64 m)) (hn : n ≤ 8796093022208) (h : Rule w B A n l) (hok : ∀ s ∈ l, rowOk s = true) :
    Calls Tryd.prog 14 #[.slice A n cap, .func (.func 41) #[] #[.pointer (some ⟨g, 0, none⟩)]] w fun e w' => e = .returned (.bool (l.any (rowHolds m))) ∧ Below w.heap.size w w' := by
  have ha := fidx_any (rowHolds m) l 0
  obtain ⟨R, hR⟩ : ∃ R, fidx (rowHolds m) 0 l = R := ⟨_, rfl⟩
  rw [hR] at ha
  rw [← ha]
  replace hR := hid_mk hR
  clear ha
  refine calls_of_wpQ Tryd.func14 rfl ?_
  intro Q hQ
  simp only [Tryd.ntmps14, List.size_toArray, List.length_cons, List.length_nil, Nat.reduceAdd, Nat.reduceSub, Array.replicate_succ, Array.replicate_zero, List.push_toArray, List.append_toArray, List.nil_append, List.cons_append]
  go_wp2_with fail
  refine (Idx_holdsW l A n cap w B m g hm0 hm1 hg hn h hok).mono ?_
  rw [hR.out]
  rintro e w2 ⟨rfl, hb2⟩
  go_wp2
  refine ends_ret hQ (results_tmp rfl _ _ _) rfl ?_
  exact ⟨ret_bool (by simp), hb2⟩

/-- a number's amount -/
def amountOf (n : Int) : Int := if n < 0 then -n else n
set_option maxHeartbeats 800000 in
theorem Holds_any (l : List (List Rl)) (A : Option Addr) (n cap : Nat) (k : Int) (w : World) (B : Nat) (hk0 : -9223372036854775808 ≤ k) (hk1 : k ≤ 9223372036854775807) (hn : n ≤ 8796093022208) (h : Rule w B A n l) :
    Calls Tryd.prog 33 #[.slice A n cap, .int .i64 k] w fun e w' => e = .returned (.bool (ruleOk l && ruleHolds (amountOf k) l)) ∧ Below w.heap.size w w' := by
  cases hok : ruleOk l
  · replace hok := hid_mk hok
    refine calls_of_wpQ Tryd.func33 rfl ?_
    intro Q hQ
    simp only [Tryd.ntmps33, List.size_toArray, List.length_cons, List.length_nil, Nat.reduceAdd, Nat.reduceSub, Array.replicate_succ, Array.replicate_zero, List.push_toArray, List.append_toArray, List.nil_append, List.cons_append]
    go_wp2_with fail
    refine (Right_any l A n cap w B hn h).mono ?_
    rw [hok.out]
    rintro e w1 ⟨rfl, hb1⟩
    go_wp2
    refine ends_ret hQ (results_tmp rfl _ _ _) rfl ?_
    exact ⟨ret_bool (by simp), hb1⟩
  have hmf : ∀ (fn : Fn) (first cap : Array Value) (w : World), (Instr.makeFunc fn first cap).run Tryd.prog w = .ok (.func fn first cap) w := fun _ _ _ _ => rfl
  have hrl := rule_ok hok
  obtain ⟨y, hy⟩ : ∃ y, ruleHolds (amountOf k) l = y := ⟨_, rfl⟩
  rw [hy, Bool.true_and]
  replace hok := hid_mk hok
  by_cases hneg : k < 0
  · have ha : amountOf k = -k := by unfold amountOf; rw [if_pos hneg]
    rw [ha] at hy
    replace hy := hid_mk hy
    clear ha
    have u1 : IntKind.u64.wrap k = k + 18446744073709551616 := by unfold IntKind.wrap; simp [IntKind.bits, IntKind.signed]; omega
    have u2 : IntKind.u64.wrap (-(k + 18446744073709551616)) = -k := by unfold IntKind.wrap; simp [IntKind.bits, IntKind.signed]; omega
    refine calls_of_wpQ Tryd.func33 rfl ?_
    intro Q hQ
    simp only [Tryd.ntmps33, List.size_toArray, List.length_cons, List.length_nil, Nat.reduceAdd, Nat.reduceSub, Array.replicate_succ, Array.replicate_zero, List.push_toArray, List.append_toArray, List.nil_append, List.cons_append]
    go_wp2_with fail
    refine (Right_any l A n cap w B hn h).mono ?_
    rw [hok.out]
    rintro e w1 ⟨rfl, hb1⟩
    have hY := Blk.new w1 77 #[.int .u64 (k + 18446744073709551616)]
    have c0 := hY.cell 0
    have hY2 := Blk.new w1 77 #[.int .u64 (-k)]
    have c1 := hY2.cell 0
    have hb2 : Below w.heap.size w (w1.alloc (.cells #[.int .u64 (-k)] 77)) := hb1.alloc hb1.size _
    replace hb2 := hid_mk hb2
    go_wp2_with fail
    refine (Con_holdsW l A n cap _ B (-k) w1.heap.size (by omega) (by omega) (by simp) hn (h.to hb2.out) hrl).mono ?_
    rw [show l.any (rowHolds (-k)) = y from hy.out]
    rintro e w3 ⟨rfl, hb3⟩
    have q3 := hid_mk (after (w := w) hb3 hb2.out).1
    go_wp2
    refine ends_ret hQ (results_tmp rfl _ _ _) rfl ?_
    exact ⟨rfl, q3.out⟩
  · have ha : amountOf k = k := by unfold amountOf; rw [if_neg hneg]
    rw [ha] at hy
    replace hy := hid_mk hy
    clear ha
    have u1 : IntKind.u64.wrap k = k := IntWalk.u64_in _ (by omega)
    refine calls_of_wpQ Tryd.func33 rfl ?_
    intro Q hQ
    simp only [Tryd.ntmps33, List.size_toArray, List.length_cons, List.length_nil, Nat.reduceAdd, Nat.reduceSub, Array.replicate_succ, Array.replicate_zero, List.push_toArray, List.append_toArray, List.nil_append, List.cons_append]
    go_wp2_with fail
    refine (Right_any l A n cap w B hn h).mono ?_
    rw [hok.out]
    rintro e w1 ⟨rfl, hb1⟩
    have hY := Blk.new w1 77 #[.int .u64 k]
    have c1 := hY.cell 0
    have hb2 : Below w.heap.size w (w1.alloc (.cells #[.int .u64 k] 77)) := hb1.alloc hb1.size _
    replace hb2 := hid_mk hb2
    go_wp2_with fail
    refine (Con_holdsW l A n cap _ B k w1.heap.size (by omega) (by omega) (by simp) hn (h.to hb2.out) hrl).mono ?_
    rw [show l.any (rowHolds k) = y from hy.out]
    rintro e w3 ⟨rfl, hb3⟩
    have q3 := hid_mk (after (w := w) hb3 hb2.out).1
    go_wp2
    refine ends_ret hQ (results_tmp rfl _ _ _) rfl ?_
    exact ⟨rfl, q3.out⟩
end Go.Proofs.YtfafinnklniniaaDoor
