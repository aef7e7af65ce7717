/-
  WHAT IS PROVED HERE: which rules may be, a number's amount, and whether a rule that may be holds of a number, as the reference says. Conditions: at most 2^43 elements a slice; the number is an int64.
-/
import Derived.Test.YtfafinnklniniaaDoorPlu3
namespace Go.Proofs.YtfafinnklniniaaDoor
open Go.RowKit

theorem all_drop {α : Type} (p : α → Bool) {l : List α} {k : Nat} {x : α} (h : l.drop k = x :: l.drop (k + 1)) : (l.drop k).all p = (p x && (l.drop (k + 1)).all p) := by rw [h, List.all_cons]
set_option maxRecDepth 100000 in
set_option maxHeartbeats 3200000 in
theorem refRight_any (l : List (List Rl)) (A : Option Addr) (n cap : Nat) (w : World) (B : Nat) (hn : n ≤ 8796093022208) (h : Rule w B A n l) :
    Calls Tryd.prog 7 #[.slice A n cap] w fun e w' => e = .returned (.bool (ruleOk l)) ∧ Below w.heap.size w w' := by
  have hlen := hid_mk h.len
  by_cases hl1 : n < 1
  · have hf : ruleOk l = false := by unfold ruleOk; rw [hlen.out, show decide (1 ≤ n ∧ n ≤ 10) = false by simp; omega]; simp
    rw [hf]
    clear hf
    refine calls_of_wpQ Tryd.func7 rfl ?_
    intro Q hQ
    simp only [Tryd.ntmps7, List.size_toArray, List.length_cons, List.length_nil, Nat.reduceAdd, Nat.reduceSub, Array.replicate_succ, Array.replicate_zero, List.push_toArray, List.append_toArray, List.nil_append, List.cons_append]
    go_wp2
    refine ends_ret hQ (results_tmp rfl _ _ _) rfl ?_
    exact ⟨rfl, Below.refl _ _⟩
  by_cases hl2 : 10 < n
  · have hf : ruleOk l = false := by unfold ruleOk; rw [hlen.out, show decide (1 ≤ n ∧ n ≤ 10) = false by simp; omega]; simp
    rw [hf]
    clear hf
    refine calls_of_wpQ Tryd.func7 rfl ?_
    intro Q hQ
    simp only [Tryd.ntmps7, List.size_toArray, List.length_cons, List.length_nil, Nat.reduceAdd, Nat.reduceSub, Array.replicate_succ, Array.replicate_zero, List.push_toArray, List.append_toArray, List.nil_append, List.cons_append]
    go_wp2
    refine ends_ret hQ (results_tmp rfl _ _ _) rfl ?_
    exact ⟨rfl, Below.refl _ _⟩
  obtain ⟨R, hR⟩ : ∃ R, ruleOk l = R := ⟨_, rfl⟩
  have hR0 : Hid (R = (l.drop 0).all rowOk) := by rw [Hid, ← hR, List.drop_zero]; unfold ruleOk; rw [hlen.out, show decide (1 ≤ n ∧ n ≤ 10) = true by simp; omega, Bool.true_and]
  rw [hR]
  replace hR := hid_mk hR
  refine calls_of_wpQ Tryd.func7 rfl ?_
  intro Q hQ
  simp only [Tryd.ntmps7, List.size_toArray, List.length_cons, List.length_nil, Nat.reduceAdd, Nat.reduceSub, Array.replicate_succ, Array.replicate_zero, List.push_toArray, List.append_toArray, List.nil_append, List.cons_append]
  go_wp2
  go_loopw [19] (fun iv wr => ∃ k : Nat, iv = .int .i64 k ∧ k ≤ n ∧ Hid (R = (l.drop k).all rowOk) ∧ Hid (Below w.heap.size w wr)) (fun iv _ => n - (intOf iv).toNat)
  case atStart => exact ⟨0, rfl, Nat.zero_le _, hR0, Below.refl _ _⟩
  case round =>
    clear hR0
    obtain ⟨k, rfl, hk, hRk, hb⟩ := hrel
    by_cases hlt : k < n
    · obtain ⟨b, o, r, v, rfl, hbl, hd, c0, hsub, hvn⟩ := (h.to hb.out).at_ hlt
      obtain ⟨A2, n2, c2⟩ := v
      unfold slV at c0
      dsimp only at *
      obtain ⟨T, hT⟩ : ∃ T, (l.drop (k + 1)).all rowOk = T := ⟨_, rfl⟩
      have hR1 : Hid (R = (rowOk r && T)) := by rw [Hid, hRk.out, all_drop rowOk hd.out, hT]
      replace hT := hid_mk hT
      have hlen2 := hid_mk hsub.len
      have k0 : (0 : Int) ≤ k := by omega
      have k1 : (k : Int) < n := by omega
      by_cases hm1 : n2 < 1
      · have hRf : R = false := by rw [hR1.out]; unfold rowOk; rw [hlen2.out, show decide (1 ≤ n2 ∧ n2 ≤ 10) = false by simp; omega]; simp
        subst hRf
        go_wp2
        refine ends_ret hQ (results_tmp rfl _ _ _) rfl ?_
        exact ⟨rfl, hb.out⟩
      by_cases hm2 : 10 < n2
      · have hRf : R = false := by rw [hR1.out]; unfold rowOk; rw [hlen2.out, show decide (1 ≤ n2 ∧ n2 ≤ 10) = false by simp; omega]; simp
        subst hRf
        go_wp2
        refine ends_ret hQ (results_tmp rfl _ _ _) rfl ?_
        exact ⟨rfl, hb.out⟩
      have hR2 : Hid (R = ((r.drop 0).all relOk && T)) := by rw [Hid, hR1.out, List.drop_zero]; unfold rowOk; rw [hlen2.out, show decide (1 ≤ n2 ∧ n2 ≤ 10) = true by simp; omega, Bool.true_and]
      replace hsub := hid_mk hsub
      go_wp2
      obtain ⟨wo, hwo⟩ : ∃ wo : World, wo = wr := ⟨_, rfl⟩
      subst hwo
      go_loopw [33] (fun iv wr => ∃ j : Nat, iv = .int .i64 j ∧ j ≤ n2 ∧ Hid (R = ((r.drop j).all relOk && T)) ∧ Hid (Below wo.heap.size wo wr)) (fun iv _ => n2 - (intOf iv).toNat)
      case atStart => exact ⟨0, rfl, Nat.zero_le _, hR2, Below.refl _ _⟩
      case round =>
        clear hR2
        obtain ⟨j, rfl, hj, hRj, hb2⟩ := hrel
        have q2 := hid_mk (after (w := w) hb2.out hb.out).1
        by_cases hlj : j < n2
        · obtain ⟨b3, o3, x, v, rfl, hbl3, hd3, e0, e1, e2, hsp, hvn3⟩ := (hsub.out.to hb2.out).at_ hlj
          obtain ⟨A3, n3, c3⟩ := v
          obtain ⟨mod, nt, sps⟩ := x
          unfold slV at e2
          dsimp only at *
          obtain ⟨T3, hT3⟩ : ∃ T3, ((r.drop (j + 1)).all relOk && T) = T3 := ⟨_, rfl⟩
          have hR3 : Hid (R = (relOk ⟨mod, nt, sps⟩ && T3)) := by rw [Hid, hRj.out, all_drop relOk hd3.out, Bool.and_assoc, hT3]
          replace hT3 := hid_mk hT3
          have hlen3 := hid_mk hsp.len
          have j0 : (0 : Int) ≤ j := by omega
          have j1 : (j : Int) < n2 := by omega
          have qx : Below wr.heap.size wr (wr.alloc (.cells #[.int .i64 mod, .bool nt, .slice A3 n3 c3] 37)) := (Below.refl _ _).alloc (Nat.le_refl _) _
          have hbx := hid_mk (after (w := wo) qx hb2.out).1
          have qwx := hid_mk (after (w := w) qx q2.out).1
          have hspx := hid_mk (hsp.to qx)
          clear qx hsp
          by_cases hm : mod = 0 ∨ (2 ≤ mod ∧ mod ≤ 1000000)
          case neg =>
            have hRf : R = false := by rw [hR3.out]; unfold relOk; dsimp only; rw [decide_eq_false hm]; simp
            subst hRf
            by_cases u1 : mod < 0
            · clear hm
              go_wp2
              refine ends_ret hQ (results_tmp rfl _ _ _) rfl ?_
              exact ⟨rfl, qwx.out⟩
            by_cases u2 : mod = 1
            · subst u2
              clear hm
              go_wp2
              refine ends_ret hQ (results_tmp rfl _ _ _) rfl ?_
              exact ⟨rfl, qwx.out⟩
            have u3 : 1000000 < mod := by omega
            have u4 : (mod == 1) = false := by simpa using u2
            clear hm
            go_wp2
            refine ends_ret hQ (results_tmp rfl _ _ _) rfl ?_
            exact ⟨rfl, qwx.out⟩
          have u1 : ¬ mod < 0 := by omega
          have u2 : ¬ mod = 1 := by omega
          have u4 : (mod == 1) = false := by simpa using u2
          have u3 : ¬ 1000000 < mod := by omega
          by_cases hs1 : n3 < 1
          · have hRf : R = false := by rw [hR3.out]; unfold relOk; dsimp only; rw [hlen3.out, show decide (1 ≤ n3 ∧ n3 ≤ 10) = false by simp; omega]; simp
            subst hRf
            clear hm
            go_wp2
            refine ends_ret hQ (results_tmp rfl _ _ _) rfl ?_
            exact ⟨rfl, qwx.out⟩
          by_cases hs2 : 10 < n3
          · have hRf : R = false := by rw [hR3.out]; unfold relOk; dsimp only; rw [hlen3.out, show decide (1 ≤ n3 ∧ n3 ≤ 10) = false by simp; omega]; simp
            subst hRf
            clear hm
            go_wp2
            refine ends_ret hQ (results_tmp rfl _ _ _) rfl ?_
            exact ⟨rfl, qwx.out⟩
          have hR4 : Hid (R = ((sps.drop 0).all spanOk && T3)) := by rw [Hid, hR3.out, List.drop_zero]; unfold relOk; dsimp only; rw [hlen3.out, decide_eq_true hm, show decide (1 ≤ n3 ∧ n3 ≤ 10) = true by simp; omega]; simp
          clear hm
          go_wp2
          obtain ⟨wy, hwy⟩ : ∃ wy, wr.alloc (.cells #[.int .i64 mod, .bool nt, .slice A3 n3 c3] 37) = wy := ⟨_, rfl⟩
          rw [hwy] at hbx qwx hspx ⊢
          clear hwy
          go_loopw [65] (fun iv wr => ∃ i : Nat, iv = .int .i64 i ∧ i ≤ n3 ∧ Hid (R = ((sps.drop i).all spanOk && T3)) ∧ Hid (Below wy.heap.size wy wr)) (fun iv _ => n3 - (intOf iv).toNat)
          case atStart => exact ⟨0, rfl, Nat.zero_le _, hR4, Below.refl _ _⟩
          case round =>
            clear hR4
            obtain ⟨i, rfl, hi, hRi, hb4⟩ := hrel
            have q4 := hid_mk (after (w := w) hb4.out qwx.out).1
            have p4 := hid_mk (after (w := wo) hb4.out hbx.out).1
            by_cases hli : i < n3
            · obtain ⟨b5, o5, s, rfl, hbl5, hd5, g0, g1⟩ := (hspx.out.to hb4.out).at_ hli
              obtain ⟨lo, hi5⟩ := s
              dsimp only at *
              have hR5 : Hid (R = (spanOk (lo, hi5) && ((sps.drop (i + 1)).all spanOk && T3))) := by rw [Hid, hRi.out, all_drop spanOk hd5.out, Bool.and_assoc]
              have i0 : (0 : Int) ≤ i := by omega
              have i1 : (i : Int) < n3 := by omega
              have qx : Below wr.heap.size wr (wr.alloc (.cells #[.int .i64 lo, .int .i64 hi5] 45)) := (Below.refl _ _).alloc (Nat.le_refl _) _
              have hb6 := hid_mk (after (w := wy) qx hb4.out).1
              have q6 := hid_mk (after (w := w) qx q4.out).1
              clear qx
              by_cases v1 : lo < 0
              · have hso : spanOk (lo, hi5) = false := by unfold spanOk; simp; omega
                have hRf : R = false := by rw [hR5.out, hso]; rfl
                subst hRf
                go_wp2
                refine ends_ret hQ (results_tmp rfl _ _ _) rfl ?_
                exact ⟨rfl, q6.out⟩
              by_cases v2 : hi5 < lo
              · have hso : spanOk (lo, hi5) = false := by unfold spanOk; simp; omega
                have hRf : R = false := by rw [hR5.out, hso]; rfl
                subst hRf
                go_wp2
                refine ends_ret hQ (results_tmp rfl _ _ _) rfl ?_
                exact ⟨rfl, q6.out⟩
              by_cases v3 : 1000000 < hi5
              · have hso : spanOk (lo, hi5) = false := by unfold spanOk; simp; omega
                have hRf : R = false := by rw [hR5.out, hso]; rfl
                subst hRf
                go_wp2
                refine ends_ret hQ (results_tmp rfl _ _ _) rfl ?_
                exact ⟨rfl, q6.out⟩
              have hso : spanOk (lo, hi5) = true := by unfold spanOk; simp; omega
              have hR6 : Hid (R = ((sps.drop (i + 1)).all spanOk && T3)) := by rw [Hid, hR5.out, hso, Bool.true_and]
              go_wp2
              go_roundw
              case rel => exact ⟨i + 1, by go_num, by omega, hR6, hb6⟩
              case measure => simp [intOf]; omega
            · have hR6 : Hid (R = ((r.drop (j + 1)).all relOk && T)) := by rw [Hid, hRi.out, hspx.out.end_ (k := i) (by omega), hT3.out]; rfl
              go_wp2
              go_roundw
              case rel => exact ⟨j + 1, by go_num, by omega, hR6, p4⟩
              case measure => simp [intOf]; omega
        · have hR6 : Hid (R = (l.drop (k + 1)).all rowOk) := by rw [Hid, hRj.out, hsub.out.end_ (k := j) (by omega), hT.out]; rfl
          go_wp2
          go_roundw
          case rel => exact ⟨k + 1, by go_num, by omega, hR6, q2⟩
          case measure => simp [intOf]; omega
    · have hRt : R = true := by rw [hRk.out, h.end_ hlt]; rfl
      subst hRt
      go_wp2
      refine ends_ret hQ (results_tmp rfl _ _ _) rfl ?_
      exact ⟨rfl, hb.out⟩
end Go.Proofs.YtfafinnklniniaaDoor
