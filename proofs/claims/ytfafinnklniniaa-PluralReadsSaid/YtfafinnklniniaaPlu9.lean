/-
  WHAT IS PROVED HERE: which rules may be, a number's amount, and whether a rule that may be holds of a number, as the reference says. Conditions: at most 2^43 elements a slice; the number is an int64.
-/
import Derived.Test.YtfafinnklniniaaPlu3
namespace Go.Proofs.Ytfafinnklniniaa
open Go.RowKit

theorem all_drop {α : Type} (p : α → Bool) {l : List α} {k : Nat} {x : α} (h : l.drop k = x :: l.drop (k + 1)) : (l.drop k).all p = (p x && (l.drop (k + 1)).all p) := by rw [h, List.all_cons]
set_option maxRecDepth 100000 in
set_option maxHeartbeats 3200000 in
theorem refRight_any (l : List (List Rl)) (A : Option Addr) (n cap : Nat) (w : World) (B : Nat) (hn : n ≤ 8796093022208) (h : Rule w B A n l) :
    Calls Try.prog 12 #[.slice A n cap] w fun e w' => e = .returned (.bool (ruleOk l)) ∧ Below w.heap.size w w' := by
  have hlen := hid_mk h.len
  by_cases hl1 : n < 1
  · have hf : ruleOk l = false := by unfold ruleOk; rw [hlen.out, show decide (1 ≤ n ∧ n ≤ 10) = false by simp; omega]; simp
    rw [hf]
    clear hf
    refine calls_of_wpQ Try.func12 rfl ?_
    intro Q hQ
    simp only [Try.ntmps12, List.size_toArray, List.length_cons, List.length_nil, Nat.reduceAdd, Nat.reduceSub, Array.replicate_succ, Array.replicate_zero, List.push_toArray, List.append_toArray, List.nil_append, List.cons_append]
    go_wp2
    refine ends_ret hQ (results_tmp rfl _ _ _) rfl ?_
    exact ⟨rfl, Below.refl _ _⟩
  by_cases hl2 : 10 < n
  · have hf : ruleOk l = false := by unfold ruleOk; rw [hlen.out, show decide (1 ≤ n ∧ n ≤ 10) = false by simp; omega]; simp
    rw [hf]
    clear hf
    refine calls_of_wpQ Try.func12 rfl ?_
    intro Q hQ
    simp only [Try.ntmps12, List.size_toArray, List.length_cons, List.length_nil, Nat.reduceAdd, Nat.reduceSub, Array.replicate_succ, Array.replicate_zero, List.push_toArray, List.append_toArray, List.nil_append, List.cons_append]
    go_wp2
    refine ends_ret hQ (results_tmp rfl _ _ _) rfl ?_
    exact ⟨rfl, Below.refl _ _⟩
  obtain ⟨R, hR⟩ : ∃ R, ruleOk l = R := ⟨_, rfl⟩
  have hR0 : Hid (R = (l.drop 0).all rowOk) := by rw [Hid, ← hR, List.drop_zero]; unfold ruleOk; rw [hlen.out, show decide (1 ≤ n ∧ n ≤ 10) = true by simp; omega, Bool.true_and]
  rw [hR]
  replace hR := hid_mk hR
  refine calls_of_wpQ Try.func12 rfl ?_
  intro Q hQ
  simp only [Try.ntmps12, List.size_toArray, List.length_cons, List.length_nil, Nat.reduceAdd, Nat.reduceSub, Array.replicate_succ, Array.replicate_zero, List.push_toArray, List.append_toArray, List.nil_append, List.cons_append]
  go_wp2
  go_loopw [19] (fun iv wr => ∃ k : Nat, iv = .int .i64 k ∧ k ≤ n ∧ Hid (R = (l.drop k).all rowOk) ∧ Hid (Below w.heap.size w wr)) (fun iv _ => n - (intOf iv).toNat)
  case atStart => exact ⟨0, rfl, Nat.zero_le _, hR0, Below.refl _ _⟩
  case round =>
    clear hR0
    obtain ⟨k, rfl, hk, hRk, hb⟩ := hrel
    by_cases hlt : k < n
    · obtain ⟨b, o, r, v, rfl, hbl, hd, c0, hsub, hvn⟩ := (h.to hb.out).at_ hlt
      obtain ⟨A2, n2, c2⟩ := v
      unfold slV at c0
      dsimp only at *
      obtain ⟨T, hT⟩ : ∃ T, (l.drop (k + 1)).all rowOk = T := ⟨_, rfl⟩
      have hR1 : Hid (R = (rowOk r && T)) := by rw [Hid, hRk.out, all_drop rowOk hd.out, hT]
      replace hT := hid_mk hT
      have hlen2 := hid_mk hsub.len
      have k0 : (0 : Int) ≤ k := by omega
      have k1 : (k : Int) < n := by omega
      by_cases hm1 : n2 < 1
      · have hRf : R = false := by rw [hR1.out]; unfold rowOk; rw [hlen2.out, show decide (1 ≤ n2 ∧ n2 ≤ 10) = false by simp; omega]; simp
        subst hRf
        go_wp2
        refine ends_ret hQ (results_tmp rfl _ _ _) rfl ?_
        exact ⟨rfl, hb.out⟩
      by_cases hm2 : 10 < n2
      · have hRf : R = false := by rw [hR1.out]; unfold rowOk; rw [hlen2.out, show decide (1 ≤ n2 ∧ n2 ≤ 10) = false by simp; omega]; simp
        subst hRf
        go_wp2
        refine ends_ret hQ (results_tmp rfl _ _ _) rfl ?_
        exact ⟨rfl, hb.out⟩
      have hR2 : Hid (R = ((r.drop 0).all relOk && T)) := by rw [Hid, hR1.out, List.drop_zero]; unfold rowOk; rw [hlen2.out, show decide (1 ≤ n2 ∧ n2 ≤ 10) = true by simp; omega, Bool.true_and]
      replace hsub := hid_mk hsub
      go_wp2
      obtain ⟨wo, hwo⟩ : ∃ wo : World, wo = wr := ⟨_, rfl⟩
      subst hwo
      go_loopw [33] (fun iv wr => ∃ j : Nat, iv = .int .i64 j ∧ j ≤ n2 ∧ Hid (R = ((r.drop j).all relOk && T)) ∧ Hid (Below wo.heap.size wo wr)) (fun iv _ => n2 - (intOf iv).toNat)
      case atStart => exact ⟨0, rfl, Nat.zero_le _, hR2, Below.refl _ _⟩
      case round =>
        clear hR2
        obtain ⟨j, rfl, hj, hRj, hb2⟩ := hrel
        have q2 := hid_mk (after (w := w) hb2.out hb.out).1
        by_cases hlj : j < n2
        · obtain ⟨b3, o3, x, v, rfl, hbl3, hd3, e0, e1, e2, hsp, hvn3⟩ := (hsub.out.to hb2.out).at_ hlj
          obtain ⟨A3, n3, c3⟩ := v
          obtain ⟨mod, nt, sps⟩ := x
          unfold slV at e2
          dsimp only at *
          obtain ⟨T3, hT3⟩ : ∃ T3, ((r.drop (j + 1)).all relOk && T) = T3 := ⟨_, rfl⟩
          have hR3 : Hid (R = (relOk ⟨mod, nt, sps⟩ && T3)) := by rw [Hid, hRj.out, all_drop relOk hd3.out, Bool.and_assoc, hT3]
          replace hT3 := hid_mk hT3
          have hlen3 := hid_mk hsp.len
          have j0 : (0 : Int) ≤ j := by omega
          have j1 : (j : Int) < n2 := by omega
          have qx : Below wr.heap.size wr (wr.alloc (.cells #[.int .i64 mod, .bool nt, .slice A3 n3 c3] 42)) := (Below.refl _ _).alloc (Nat.le_refl _) _
          have hbx := hid_mk (after (w := wo) qx hb2.out).1
          have qwx := hid_mk (after (w := w) qx q2.out).1
          have hspx := hid_mk (hsp.to qx)
          clear qx hsp
          by_cases hm : mod = 0 ∨ (2 ≤ mod ∧ mod ≤ 1000000)
          case neg =>
            have hRf : R = false := by rw [hR3.out]; unfold relOk; dsimp only; rw [decide_eq_false hm]; simp
            subst hRf
            by_cases u1 : mod < 0
            · clear hm
              go_wp2
              refine ends_ret hQ (results_tmp rfl _ _ _) rfl ?_
              exact ⟨rfl, qwx.out⟩
            by_cases u2 : mod = 1
            · subst u2
              clear hm
              go_wp2
              refine ends_ret hQ (results_tmp rfl _ _ _) rfl ?_
              exact ⟨rfl, qwx.out⟩
            have u3 : 1000000 < mod := by omega
            have u4 : (mod == 1) = false := by simpa using u2
            clear hm
            go_wp2
            refine ends_ret hQ (results_tmp rfl _ _ _) rfl ?_
            exact ⟨rfl, qwx.out⟩
          have u1 : ¬ mod < 0 := by omega
          have u2 : ¬ mod = 1 := by omega
          have u4 : (mod == 1) = false := by simpa using u2
          have u3 : ¬ 1000000 < mod := by omega
          by_cases hs1 : n3 < 1
          · have hRf : R = false := by rw [hR3.out]; unfold relOk; dsimp only; rw [hlen3.out, show decide (1 ≤ n3 ∧ n3 ≤ 10) = false by simp; omega]; simp
            subst hRf
            clear hm
            go_wp2
            refine ends_ret hQ (results_tmp rfl _ _ _) rfl ?_
            exact ⟨rfl, qwx.out⟩
          by_cases hs2 : 10 < n3
          · have hRf : R = false := by rw [hR3.out]; unfold relOk; dsimp only; rw [hlen3.out, show decide (1 ≤ n3 ∧ n3 ≤ 10) = false by simp; omega]; simp
            subst hRf
            clear hm
            go_wp2
            refine ends_ret hQ (results_tmp rfl _ _ _) rfl ?_
            exact ⟨rfl, qwx.out⟩
          have hR4 : Hid (R = ((sps.drop 0).all spanOk && T3)) := by rw [Hid, hR3.out, List.drop_zero]; unfold relOk; dsimp only; rw [hlen3.out, decide_eq_true hm, show decide (1 ≤ n3 ∧ n3 ≤ 10) = true by simp; omega]; simp
          clear hm
          go_wp2
          obtain ⟨wy, hwy⟩ : ∃ wy, wr.alloc (.cells #[.int .i64 mod, .bool nt, .slice A3 n3 c3] 42) = wy := ⟨_, rfl⟩
          rw [hwy] at hbx qwx hspx ⊢
          clear hwy
          go_loopw [65] (fun iv wr => ∃ i : Nat, iv = .int .i64 i ∧ i ≤ n3 ∧ Hid (R = ((sps.drop i).all spanOk && T3)) ∧ Hid (Below wy.heap.size wy wr)) (fun iv _ => n3 - (intOf iv).toNat)
          case atStart => exact ⟨0, rfl, Nat.zero_le _, hR4, Below.refl _ _⟩
          case round =>
            clear hR4
            obtain ⟨i, rfl, hi, hRi, hb4⟩ := hrel
            have q4 := hid_mk (after (w := w) hb4.out qwx.out).1
            have p4 := hid_mk (after (w := wo) hb4.out hbx.out).1
            by_cases hli : i < n3
            · obtain ⟨b5, o5, s, rfl, hbl5, hd5, g0, g1⟩ := (hspx.out.to hb4.out).at_ hli
              obtain ⟨lo, hi5⟩ := s
              dsimp only at *
              have hR5 : Hid (R = (spanOk (lo, hi5) && ((sps.drop (i + 1)).all spanOk && T3))) := by rw [Hid, hRi.out, all_drop spanOk hd5.out, Bool.and_assoc]
              have i0 : (0 : Int) ≤ i := by omega
              have i1 : (i : Int) < n3 := by omega
              have qx : Below wr.heap.size wr (wr.alloc (.cells #[.int .i64 lo, .int .i64 hi5] 52)) := (Below.refl _ _).alloc (Nat.le_refl _) _
              have hb6 := hid_mk (after (w := wy) qx hb4.out).1
              have q6 := hid_mk (after (w := w) qx q4.out).1
              clear qx
              by_cases v1 : lo < 0
              · have hso : spanOk (lo, hi5) = false := by unfold spanOk; simp; omega
                have hRf : R = false := by rw [hR5.out, hso]; rfl
                subst hRf
                go_wp2
                refine ends_ret hQ (results_tmp rfl _ _ _) rfl ?_
                exact ⟨rfl, q6.out⟩
              by_cases v2 : hi5 < lo
              · have hso : spanOk (lo, hi5) = false := by unfold spanOk; simp; omega
                have hRf : R = false := by rw [hR5.out, hso]; rfl
                subst hRf
                go_wp2
                refine ends_ret hQ (results_tmp rfl _ _ _) rfl ?_
                exact ⟨rfl, q6.out⟩
              by_cases v3 : 1000000 < hi5
              · have hso : spanOk (lo, hi5) = false := by unfold spanOk; simp; omega
                have hRf : R = false := by rw [hR5.out, hso]; rfl
                subst hRf
                go_wp2
                refine ends_ret hQ (results_tmp rfl _ _ _) rfl ?_
                exact ⟨rfl, q6.out⟩
              have hso : spanOk (lo, hi5) = true := by unfold spanOk; simp; omega
              have hR6 : Hid (R = ((sps.drop (i + 1)).all spanOk && T3)) := by rw [Hid, hR5.out, hso, Bool.true_and]
              go_wp2
              go_roundw
              case rel => exact ⟨i + 1, by go_num, by omega, hR6, hb6⟩
              case measure => simp [intOf]; omega
            · have hR6 : Hid (R = ((r.drop (j + 1)).all relOk && T)) := by rw [Hid, hRi.out, hspx.out.end_ (k := i) (by omega), hT3.out]; rfl
              go_wp2
              go_roundw
              case rel => exact ⟨j + 1, by go_num, by omega, hR6, p4⟩
              case measure => simp [intOf]; omega
        · have hR6 : Hid (R = (l.drop (k + 1)).all rowOk) := by rw [Hid, hRj.out, hsub.out.end_ (k := j) (by omega), hT.out]; rfl
          go_wp2
          go_roundw
          case rel => exact ⟨k + 1, by go_num, by omega, hR6, q2⟩
          case measure => simp [intOf]; omega
    · have hRt : R = true := by rw [hRk.out, h.end_ hlt]; rfl
      subst hRt
      go_wp2
      refine ends_ret hQ (results_tmp rfl _ _ _) rfl ?_
      exact ⟨rfl, hb.out⟩
theorem Amount_any (n : Int) (w : World) (h0 : -9223372036854775808 ≤ n) (h1 : n ≤ 9223372036854775807) : Calls Try.prog 29 #[.int .i64 n] w fun e w' => e = .returned (.int .u64 (amountOf n)) ∧ w = w' := by
  by_cases hn : n < 0
  · have ha : amountOf n = -n := if_pos hn
    rw [ha]
    have k1 : IntKind.i64.wrap (n + 1) = n + 1 := IntWalk.i64_in _ (by omega)
    have k2 : IntKind.i64.wrap (-(n + 1)) = -(n + 1) := IntWalk.i64_in _ (by omega)
    have k3 : IntKind.u64.wrap (-(n + 1)) = -(n + 1) := IntWalk.u64_in _ (by omega)
    have k4 : IntKind.u64.wrap (-(n + 1) + 1) = -n := by rw [show -(n + 1) + 1 = -n from by omega]; exact IntWalk.u64_in _ (by omega)
    have k5 : ¬ 0 ≤ n := by omega
    refine calls_of_wpQ Try.func29 rfl ?_
    intro Q hQ
    simp only [Try.ntmps29, List.size_toArray, List.length_cons, List.length_nil, Nat.reduceAdd, Nat.reduceSub, Array.replicate_succ, Array.replicate_zero, List.push_toArray, List.append_toArray, List.nil_append, List.cons_append]
    go_wp2
    refine ends_ret hQ (results_tmp rfl _ _ _) rfl ?_
    exact ⟨rfl, rfl⟩
  · have ha : amountOf n = n := if_neg hn
    rw [ha]
    have k3 : IntKind.u64.wrap n = n := IntWalk.u64_in _ (by omega)
    have k5 : 0 ≤ n := by omega
    refine calls_of_wpQ Try.func29 rfl ?_
    intro Q hQ
    simp only [Try.ntmps29, List.size_toArray, List.length_cons, List.length_nil, Nat.reduceAdd, Nat.reduceSub, Array.replicate_succ, Array.replicate_zero, List.push_toArray, List.append_toArray, List.nil_append, List.cons_append]
    go_wp2
    refine ends_ret hQ (results_tmp rfl _ _ _) rfl ?_
    exact ⟨rfl, rfl⟩
theorem amount_ge (n : Int) (h0 : -9223372036854775808 ≤ n) (h1 : n ≤ 9223372036854775807) : 0 ≤ amountOf n ∧ amountOf n ≤ 9223372036854775808 := by unfold amountOf; split <;> omega
theorem any_drop {α : Type} (p : α → Bool) {l : List α} {k : Nat} {x : α} (h : l.drop k = x :: l.drop (k + 1)) : (l.drop k).any p = (p x || (l.drop (k + 1)).any p) := by rw [h, List.any_cons]
theorem mem_drop {α : Type} {l : List α} {k : Nat} {x : α} (h : l.drop k = x :: l.drop (k + 1)) : x ∈ l := List.mem_of_mem_drop (show x ∈ l.drop k by rw [h]; exact List.mem_cons_self ..)
set_option maxRecDepth 100000 in
set_option maxHeartbeats 6400000 in
theorem refHolds_any (l : List (List Rl)) (A : Option Addr) (n cap : Nat) (x0 : Int) (w : World) (B : Nat) (hx0 : -9223372036854775808 ≤ x0) (hx1 : x0 ≤ 9223372036854775807) (hn : n ≤ 8796093022208) (h : Rule w B A n l) (hok : ruleOk l = true) :
    Calls Try.prog 13 #[.slice A n cap, .int .i64 x0] w fun e w' => e = .returned (.bool (ruleHolds (amountOf x0) l)) ∧ Below w.heap.size w w' := by
  have hlen := hid_mk h.len
  obtain ⟨m, hm⟩ : ∃ m, amountOf x0 = m := ⟨_, rfl⟩
  obtain ⟨hm0, hm1⟩ := amount_ge x0 hx0 hx1
  rw [hm] at hm0 hm1 ⊢
  have hrows := hid_mk (rule_ok hok)
  clear hok
  replace hm := hid_mk hm
  obtain ⟨R, hR⟩ : ∃ R, ruleHolds m l = R := ⟨_, rfl⟩
  have hR0 : Hid (R = (l.drop 0).any (rowHolds m)) := by rw [Hid, ← hR, List.drop_zero]; rfl
  rw [hR]
  replace hR := hid_mk hR
  refine calls_of_wpQ Try.func13 rfl ?_
  intro Q hQ
  simp only [Try.ntmps13, List.size_toArray, List.length_cons, List.length_nil, Nat.reduceAdd, Nat.reduceSub, Array.replicate_succ, Array.replicate_zero, List.push_toArray, List.append_toArray, List.nil_append, List.cons_append]
  go_wp2
  go_loopw [16] (fun iv wr => ∃ k : Nat, iv = .int .i64 k ∧ k ≤ n ∧ Hid (R = (l.drop k).any (rowHolds m)) ∧ Hid (Below w.heap.size w wr)) (fun iv _ => n - (intOf iv).toNat)
  case atStart => exact ⟨0, rfl, Nat.zero_le _, hR0, Below.refl _ _⟩
  case round =>
    clear hR0
    obtain ⟨k, rfl, hk, hRk, hb⟩ := hrel
    by_cases hlt : k < n
    · obtain ⟨b, o, r, v, rfl, hbl, hd, c0, hsub, hvn⟩ := (h.to hb.out).at_ hlt
      obtain ⟨A2, n2, c2⟩ := v
      unfold slV at c0
      dsimp only at *
      have hR1 : Hid (R = (rowHolds m r || (l.drop (k + 1)).any (rowHolds m))) := by rw [Hid, hRk.out, any_drop (rowHolds m) hd.out]
      have hrels := hid_mk (row_ok (hrows.out r (mem_drop hd.out)))
      have hlen2 := hid_mk hsub.len
      have k0 : (0 : Int) ≤ k := by omega
      have k1 : (k : Int) < n := by omega
      obtain ⟨RH, hRH⟩ : ∃ RH, rowHolds m r = RH := ⟨_, rfl⟩
      rw [hRH] at hR1
      have hH0 : Hid (RH = (true && (r.drop 0).all (relHolds m))) := by rw [Hid, ← hRH, List.drop_zero]; rfl
      replace hRH := hid_mk hRH
      replace hsub := hid_mk hsub
      go_wp2
      obtain ⟨wo, hwo⟩ : ∃ wo : World, wo = wr := ⟨_, rfl⟩
      subst hwo
      go_loopw [7, 22] (fun av iv wr => ∃ (j : Nat) (a : Bool), av = .bool a ∧ iv = .int .i64 j ∧ j ≤ n2 ∧ Hid (RH = (a && (r.drop j).all (relHolds m))) ∧ Hid (Below wo.heap.size wo wr)) (fun _ iv _ => n2 - (intOf iv).toNat)
      case atStart => exact ⟨0, true, rfl, rfl, Nat.zero_le _, hH0, Below.refl _ _⟩
      case round =>
        clear hH0
        obtain ⟨j, a, rfl, rfl, hj, hHj, hb2⟩ := hrel
        have q2 := hid_mk (after (w := w) hb2.out hb.out).1
        by_cases hlj : j < n2
        · obtain ⟨b3, o3, x, v, rfl, hbl3, hd3, e0, e1, e2, hsp, hvn3⟩ := (hsub.out.to hb2.out).at_ hlj
          obtain ⟨A3, n3, c3⟩ := v
          have hxo := rel_ok (hrels.out x (mem_drop hd3.out))
          obtain ⟨mod, nt, sps⟩ := x
          unfold slV at e2
          dsimp only at *
          obtain ⟨hmod, hsps⟩ := hxo
          have hH1 : Hid (RH = ((a && relHolds m ⟨mod, nt, sps⟩) && (r.drop (j + 1)).all (relHolds m))) := by rw [Hid, hHj.out, hd3.out, List.all_cons, Bool.and_assoc]
          have hlen3 := hid_mk hsp.len
          have j0 : (0 : Int) ≤ j := by omega
          have j1 : (j : Int) < n2 := by omega
          have qx : Below wr.heap.size wr (wr.alloc (.cells #[.int .i64 mod, .bool nt, .slice A3 n3 c3] 42)) := (Below.refl _ _).alloc (Nat.le_refl _) _
          have hbx := hid_mk (after (w := wo) qx hb2.out).1
          have qwx := hid_mk (after (w := w) qx q2.out).1
          have hspx := hid_mk (hsp.to qx)
          have hX := hid_mk (Blk.new wr 42 #[.int .i64 mod, .bool nt, .slice A3 n3 c3])
          clear qx hsp
          obtain ⟨mr, hmr⟩ : ∃ mr, restOf m ⟨mod, nt, sps⟩ = mr := ⟨_, rfl⟩
          have hmr0 : 0 ≤ mr ∧ mr ≤ 9223372036854775808 := by
            rw [← hmr]
            unfold restOf
            dsimp only
            split
            · exact ⟨Int.emod_nonneg _ (by omega), by have := Int.emod_lt_of_pos m (show (0 : Int) < mod by omega); omega⟩
            · omega
          obtain ⟨an, han⟩ : ∃ an, sps.any (inSpan mr) = an := ⟨_, rfl⟩
          have hrh : Hid (relHolds m ⟨mod, nt, sps⟩ = (an != nt)) := by rw [Hid]; unfold relHolds; dsimp only; rw [hmr, han]
          have hA0 : Hid (an = (false || (sps.drop 0).any (inSpan mr))) := by rw [Hid, ← han, List.drop_zero]; rfl
          replace han := hid_mk han
          go_wp2_with fail
          refine (Amount_any x0 _ hx0 hx1).mono ?_
          rw [hm.out]
          rintro e wz ⟨rfl, hwz⟩
          obtain ⟨wy, hwy⟩ : ∃ wy, wr.alloc (.cells #[.int .i64 mod, .bool nt, .slice A3 n3 c3] 42) = wy := ⟨_, rfl⟩
          rw [hwy] at hbx qwx hspx hX hwz
          subst hwz
          clear hwy
          obtain ⟨y0, y1, y2, y3⟩ := blk3 hX.out
          by_cases hpos : 0 < mod
          · have hme : m % mod = mr := by rw [← hmr]; unfold restOf; exact (if_pos hpos).symm
            have wm : IntKind.u64.wrap mod = mod := IntWalk.u64_in _ (by omega)
            have hrt : m.tmod mod = mr := by rw [← hme]; exact Int.tmod_eq_emod_of_nonneg hm0
            have hwr : IntKind.u64.wrap mr = mr := IntWalk.u64_in _ (by omega)
            have hm00 : ¬ mod = 0 := by omega
            have hm00b : (mod == 0) = false := by simpa using hm00
            clear hmod
            go_wp2
            go_loopw [11, 39] (fun cv iv wr => ∃ (i : Nat) (c : Bool), cv = .bool c ∧ iv = .int .i64 i ∧ i ≤ n3 ∧ Hid (an = (c || (sps.drop i).any (inSpan mr))) ∧ Hid (Below wy.heap.size wy wr)) (fun _ iv _ => n3 - (intOf iv).toNat)
            case atStart => exact ⟨0, false, rfl, rfl, Nat.zero_le _, hA0, Below.refl _ _⟩
            case round =>
              clear hA0
              obtain ⟨i, c, rfl, rfl, hi, hAi, hb4⟩ := hrel
              have q4 := hid_mk (after (w := w) hb4.out qwx.out).1
              have p4 := hid_mk (after (w := wo) hb4.out hbx.out).1
              clear y0 y1 y2 y3
              obtain ⟨y0, y1, y2, y3⟩ := blk3 (hX.out.keep hb4.out)
              by_cases hli : i < n3
              · obtain ⟨b5, o5, s, rfl, hbl5, hd5, g0, g1⟩ := (hspx.out.to hb4.out).at_ hli
                obtain ⟨s1, s2, s3⟩ := span_ok (hsps s (mem_drop hd5.out))
                obtain ⟨lo, hi5⟩ := s
                dsimp only at *
                have hA5 : Hid (an = ((c || inSpan mr (lo, hi5)) || (sps.drop (i + 1)).any (inSpan mr))) := by rw [Hid, hAi.out, any_drop (inSpan mr) hd5.out, Bool.or_assoc]
                have i0 : (0 : Int) ≤ i := by omega
                have i1 : (i : Int) < n3 := by omega
                have z1 : IntKind.u64.wrap lo = lo := IntWalk.u64_in _ (by omega)
                have z2 : IntKind.u64.wrap hi5 = hi5 := IntWalk.u64_in _ (by omega)
                have qx : Below wr.heap.size wr (wr.alloc (.cells #[.int .i64 lo, .int .i64 hi5] 52)) := (Below.refl _ _).alloc (Nat.le_refl _) _
                have hb6 := hid_mk (after (w := wy) qx hb4.out).1
                clear qx
                cases c
                · by_cases v1 : lo ≤ mr
                  · by_cases v2 : mr ≤ hi5
                    · have hA6 : Hid (an = (true || (sps.drop (i + 1)).any (inSpan mr))) := by rw [Hid, hA5.out]; unfold inSpan; simp [v1, v2]
                      go_wp2
                      go_roundw
                      case rel => exact ⟨i + 1, true, rfl, by go_num, by omega, hA6, hb6⟩
                      case measure => simp [intOf]; omega
                    · have hA6 : Hid (an = (false || (sps.drop (i + 1)).any (inSpan mr))) := by rw [Hid, hA5.out]; unfold inSpan; simp [v2]
                      go_wp2
                      go_roundw
                      case rel => exact ⟨i + 1, false, rfl, by go_num, by omega, hA6, hb6⟩
                      case measure => simp [intOf]; omega
                  · have hA6 : Hid (an = (false || (sps.drop (i + 1)).any (inSpan mr))) := by rw [Hid, hA5.out]; unfold inSpan; simp [v1]
                    go_wp2
                    go_roundw
                    case rel => exact ⟨i + 1, false, rfl, by go_num, by omega, hA6, hb6⟩
                    case measure => simp [intOf]; omega
                · have hA6 : Hid (an = (true || (sps.drop (i + 1)).any (inSpan mr))) := by rw [Hid, hA5.out]; simp
                  go_wp2
                  go_roundw
                  case rel => exact ⟨i + 1, true, rfl, by go_num, by omega, hA6, hb6⟩
                  case measure => simp [intOf]; omega
              · have hac : an = c := by rw [hAi.out, hspx.out.end_ (k := i) (by omega)]; simp
                subst hac
                clear hAi
                have hH6 : Hid (RH = ((a && (an != nt)) && (r.drop (j + 1)).all (relHolds m))) := by rw [Hid, hH1.out, hrh.out]
                cases a
                · go_wp2
                  go_roundw
                  case rel => exact ⟨j + 1, false, rfl, by go_num, by omega, (by rw [Hid, hH6.out]; rfl), p4⟩
                  case measure => simp [intOf]; omega
                · go_wp2
                  go_roundw
                  case rel => exact ⟨j + 1, an != nt, rfl, by go_num, by omega, (by rw [Hid, hH6.out]; rfl), p4⟩
                  case measure => simp [intOf]; omega
          · have hme : m = mr := by rw [← hmr]; unfold restOf; exact (if_neg hpos).symm
            subst hme
            clear hmod
            go_wp2
            go_loopw [11, 39] (fun cv iv wr => ∃ (i : Nat) (c : Bool), cv = .bool c ∧ iv = .int .i64 i ∧ i ≤ n3 ∧ Hid (an = (c || (sps.drop i).any (inSpan m))) ∧ Hid (Below wy.heap.size wy wr)) (fun _ iv _ => n3 - (intOf iv).toNat)
            case atStart => exact ⟨0, false, rfl, rfl, Nat.zero_le _, hA0, Below.refl _ _⟩
            case round =>
              clear hA0
              obtain ⟨i, c, rfl, rfl, hi, hAi, hb4⟩ := hrel
              have q4 := hid_mk (after (w := w) hb4.out qwx.out).1
              have p4 := hid_mk (after (w := wo) hb4.out hbx.out).1
              clear y0 y1 y2 y3
              obtain ⟨y0, y1, y2, y3⟩ := blk3 (hX.out.keep hb4.out)
              by_cases hli : i < n3
              · obtain ⟨b5, o5, s, rfl, hbl5, hd5, g0, g1⟩ := (hspx.out.to hb4.out).at_ hli
                obtain ⟨s1, s2, s3⟩ := span_ok (hsps s (mem_drop hd5.out))
                obtain ⟨lo, hi5⟩ := s
                dsimp only at *
                have hA5 : Hid (an = ((c || inSpan m (lo, hi5)) || (sps.drop (i + 1)).any (inSpan m))) := by rw [Hid, hAi.out, any_drop (inSpan m) hd5.out, Bool.or_assoc]
                have i0 : (0 : Int) ≤ i := by omega
                have i1 : (i : Int) < n3 := by omega
                have z1 : IntKind.u64.wrap lo = lo := IntWalk.u64_in _ (by omega)
                have z2 : IntKind.u64.wrap hi5 = hi5 := IntWalk.u64_in _ (by omega)
                have qx : Below wr.heap.size wr (wr.alloc (.cells #[.int .i64 lo, .int .i64 hi5] 52)) := (Below.refl _ _).alloc (Nat.le_refl _) _
                have hb6 := hid_mk (after (w := wy) qx hb4.out).1
                clear qx
                cases c
                · by_cases v1 : lo ≤ m
                  · by_cases v2 : m ≤ hi5
                    · have hA6 : Hid (an = (true || (sps.drop (i + 1)).any (inSpan m))) := by rw [Hid, hA5.out]; unfold inSpan; simp [v1, v2]
                      go_wp2
                      go_roundw
                      case rel => exact ⟨i + 1, true, rfl, by go_num, by omega, hA6, hb6⟩
                      case measure => simp [intOf]; omega
                    · have hA6 : Hid (an = (false || (sps.drop (i + 1)).any (inSpan m))) := by rw [Hid, hA5.out]; unfold inSpan; simp [v2]
                      go_wp2
                      go_roundw
                      case rel => exact ⟨i + 1, false, rfl, by go_num, by omega, hA6, hb6⟩
                      case measure => simp [intOf]; omega
                  · have hA6 : Hid (an = (false || (sps.drop (i + 1)).any (inSpan m))) := by rw [Hid, hA5.out]; unfold inSpan; simp [v1]
                    go_wp2
                    go_roundw
                    case rel => exact ⟨i + 1, false, rfl, by go_num, by omega, hA6, hb6⟩
                    case measure => simp [intOf]; omega
                · have hA6 : Hid (an = (true || (sps.drop (i + 1)).any (inSpan m))) := by rw [Hid, hA5.out]; simp
                  go_wp2
                  go_roundw
                  case rel => exact ⟨i + 1, true, rfl, by go_num, by omega, hA6, hb6⟩
                  case measure => simp [intOf]; omega
              · have hac : an = c := by rw [hAi.out, hspx.out.end_ (k := i) (by omega)]; simp
                subst hac
                clear hAi
                have hH6 : Hid (RH = ((a && (an != nt)) && (r.drop (j + 1)).all (relHolds m))) := by rw [Hid, hH1.out, hrh.out]
                cases a
                · go_wp2
                  go_roundw
                  case rel => exact ⟨j + 1, false, rfl, by go_num, by omega, (by rw [Hid, hH6.out]; rfl), p4⟩
                  case measure => simp [intOf]; omega
                · go_wp2
                  go_roundw
                  case rel => exact ⟨j + 1, an != nt, rfl, by go_num, by omega, (by rw [Hid, hH6.out]; rfl), p4⟩
                  case measure => simp [intOf]; omega
        · have hRH2 : Hid (RH = a) := by rw [Hid, hHj.out, hsub.out.end_ (k := j) (by omega)]; simp
          cases a
          · have hR6 : Hid (R = (l.drop (k + 1)).any (rowHolds m)) := by rw [Hid, hR1.out, hRH2.out]; rfl
            go_wp2
            go_roundw
            case rel => exact ⟨k + 1, by go_num, by omega, hR6, q2⟩
            case measure => simp [intOf]; omega
          · have hR6 : R = true := by rw [hR1.out, hRH2.out]; rfl
            subst hR6
            go_wp2
            refine ends_ret hQ (results_tmp rfl _ _ _) rfl ?_
            exact ⟨rfl, q2.out⟩
    · have hRt : R = false := by rw [hRk.out, h.end_ hlt]; rfl
      subst hRt
      go_wp2
      refine ends_ret hQ (results_tmp rfl _ _ _) rfl ?_
      exact ⟨rfl, hb.out⟩
end Go.Proofs.Ytfafinnklniniaa
