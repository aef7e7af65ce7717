/-
  WHAT IS PROVED HERE: what the reference's now, wrong, take and number do. Condition: the text is of at most 400 bytes.
-/
import Derived.Test.YtfafinnklniniaaPlu4
import Derived.Test.YtfafinnklniniaaPluQ
namespace Go.Proofs.Ytfafinnklniniaa
open Go.RowKit

/-- the reference's reader -/
def RP (w : World) (g : Nat) (s : ByteArray) (st : St) (may : Bool) : Prop := Blk w g 49 #[.string s, .int .i64 st.at_, .int .i64 st.bad, .bool may]
def nowS (sl : List UInt8) (st : St) : Int := if st.bad = 0 then (match sl[st.at_]? with
  | some c => (c.toNat : Int)
  | none => -1) else -1
theorem now_is (sl : List UInt8) (c : UInt8) (st : St) : isS sl c st = (nowS sl st == (c.toNat : Int)) := by
  unfold isS nowS
  by_cases hb : st.bad = 0
  · rw [if_pos hb, decide_eq_true hb, Bool.true_and]
    cases h : sl[st.at_]? with
    | none =>
      have : ((-1 : Int) == (c.toNat : Int)) = false := by simp
      rw [this]
      rfl
    | some d =>
      rw [Bool.eq_iff_iff]
      simp only [beq_iff_eq, Option.some.injEq]
      exact ⟨fun e => by rw [e], fun e => UInt8.toNat_inj.1 (by omega)⟩
  · rw [if_neg hb, decide_eq_false hb]
    have : ((-1 : Int) == (c.toNat : Int)) = false := by simp
    rw [this]
    rfl
section
variable {w w' : World} {g : Nat} {s : ByteArray} {st : St} {may : Bool}
theorem RP.cells_ (h : RP w g s st may) :
    g < w.heap.size ∧ w.cell? ⟨g, 0, none⟩ = some (.string s) ∧ w.cell? ⟨g, 1, none⟩ = some (.int .i64 st.at_) ∧ w.cell? ⟨g, 2, none⟩ = some (.int .i64 st.bad) ∧ w.cell? ⟨g, 3, none⟩ = some (.bool may) ∧ w.frozen? ⟨g, 1, none⟩ = false ∧ w.frozen? ⟨g, 2, none⟩ = false ∧ w.frozen? ⟨g, 3, none⟩ = false :=
  ⟨Blk.lt h, Blk.cell h 0, Blk.cell h 1, Blk.cell h 2, Blk.cell h 3, Blk.frozen h 1, Blk.frozen h 2, Blk.frozen h 3⟩
theorem RP.drewN (h : RP w g s st may) (n : Nat) : RP (w.drewN n) g s st may := h
theorem RP.keep (h : RP w g s st may) (hb : Below w.heap.size w w') : RP w' g s st may := Blk.keep h hb
theorem RP.bad (h : RP w g s st may) (b : Int) : RP (w.setCell ⟨g, 2, none⟩ (.int .i64 b)) g s ⟨st.at_, b⟩ may := by
  have := Blk.set_ h 2 (.int .i64 b)
  simpa [RP] using this
theorem RP.next {a : Nat} {b : Int} (h : RP w g s ⟨a, b⟩ may) : RP (w.setCell ⟨g, 1, none⟩ (.int .i64 ((a : Int) + 1))) g s ⟨a + 1, b⟩ may := by
  have := Blk.set_ h 1 (.int .i64 ((a : Int) + 1))
  simpa [RP] using this
theorem RP.may_ (h : RP w g s st may) (b : Bool) : RP (w.setCell ⟨g, 3, none⟩ (.bool b)) g s st b := by
  have := Blk.set_ h 3 (.bool b)
  simpa [RP] using this
end
set_option maxHeartbeats 800000 in
theorem now_any (s : ByteArray) (st : St) (may : Bool) (g : Nat) (w : World) (h : RP w g s st may) :
    Calls Try.prog 23 #[.pointer (some ⟨g, 0, none⟩)] w fun e w' => e = .returned (.int .i64 (nowS s.data.toList st)) ∧ Below w.heap.size w w' := by
  obtain ⟨x0, c0, c1, c2, c3, f1, f2, f3⟩ := h.cells_
  by_cases hb : st.bad = 0
  · rw [hb] at c2
    by_cases hend : st.at_ < s.size
    · have k0 : (0 : Int) ≤ st.at_ := by omega
      have k1 : (st.at_ : Int) < s.size := by omega
      have hcn := s[st.at_].toNat_lt
      have hv : nowS s.data.toList st = (s[st.at_].toNat : Int) := by unfold nowS; rw [if_pos hb, byte_at hend]
      rw [hv]
      clear hv
      have wc : IntKind.i64.wrap (s[st.at_].toNat : Int) = (s[st.at_].toNat : Int) := IntWalk.i64_in _ (by omega)
      refine calls_of_wpQ Try.func23 rfl ?_
      intro Q hQ
      simp only [Try.ntmps23, List.size_toArray, List.length_cons, List.length_nil, Nat.reduceAdd, Nat.reduceSub, Array.replicate_succ, Array.replicate_zero, List.push_toArray, List.append_toArray, List.nil_append, List.cons_append]
      go_wp2
      go_quiet (fail)
      all_goals go_wp2
      all_goals (try go_quiet (fail))
      all_goals (try go_wp2)
      all_goals
        refine ends_ret hQ (results_tmp rfl _ _ _) rfl ?_
        exact ⟨rfl, by first | exact below_drewN (Below.refl _ _) _ | exact below_drewN (below_drewN (Below.refl _ _) _) _⟩
    · have hv : nowS s.data.toList st = -1 := by unfold nowS; rw [if_pos hb, List.getElem?_eq_none (by simp; omega)]
      rw [hv]
      clear hv
      have k1 : (s.size : Int) ≤ st.at_ := by omega
      refine calls_of_wpQ Try.func23 rfl ?_
      intro Q hQ
      simp only [Try.ntmps23, List.size_toArray, List.length_cons, List.length_nil, Nat.reduceAdd, Nat.reduceSub, Array.replicate_succ, Array.replicate_zero, List.push_toArray, List.append_toArray, List.nil_append, List.cons_append]
      go_wp2
      go_quiet (fail)
      all_goals go_wp2
      all_goals
        refine ends_ret hQ (results_tmp rfl _ _ _) rfl ?_
        exact ⟨rfl, below_drewN (Below.refl _ _) _⟩
  · have hv : nowS s.data.toList st = -1 := if_neg hb
    rw [hv]
    clear hv
    have hbb : (st.bad != 0) = true := by simpa using hb
    refine calls_of_wpQ Try.func23 rfl ?_
    intro Q hQ
    simp only [Try.ntmps23, List.size_toArray, List.length_cons, List.length_nil, Nat.reduceAdd, Nat.reduceSub, Array.replicate_succ, Array.replicate_zero, List.push_toArray, List.append_toArray, List.nil_append, List.cons_append]
    go_wp2
    go_quiet (fail)
    all_goals go_wp2
    all_goals
      refine ends_ret hQ (results_tmp rfl _ _ _) rfl ?_
      exact ⟨rfl, below_drewN (Below.refl _ _) _⟩
set_option maxHeartbeats 400000 in
theorem rwrong_any (s : ByteArray) (st : St) (may : Bool) (g : Nat) (w : World) (h : RP w g s st may) :
    Calls Try.prog 38 #[.pointer (some ⟨g, 0, none⟩)] w fun e w' => e = .returned (.tuple #[]) ∧ w.grownBy w' (some g) ∧ RP w' g s (wrongS s.data.toList st) may := by
  obtain ⟨x0, c0, c1, c2, c3, f1, f2, f3⟩ := h.cells_
  by_cases hb : st.bad = 0
  · have hR1 := h.bad 80
    obtain ⟨y0, d0, d1, d2, d3, e1, e2, e3⟩ := hR1.cells_
    have g1 := gb_set w g 2 (.int .i64 80)
    rw [hb] at c2
    by_cases hend : s.size ≤ st.at_
    · have hw : wrongS s.data.toList st = ⟨st.at_, 10⟩ := by unfold wrongS; rw [if_pos hb, if_pos (by simpa using hend)]
      rw [hw]
      clear hw
      have hend2 : (s.size : Int) ≤ st.at_ := by omega
      refine calls_of_wpQ Try.func38 rfl ?_
      intro Q hQ
      simp only [Try.ntmps38, List.size_toArray, List.length_cons, List.length_nil, Nat.reduceAdd, Nat.reduceSub, Array.replicate_succ, Array.replicate_zero, List.push_toArray, List.append_toArray, List.nil_append, List.cons_append]
      go_wp2
      go_quiet (fail)
      all_goals go_wp2
      all_goals
        refine ends_end hQ (results_none rfl _ _ _) rfl ?_
        exact ⟨rfl, gb_trans (gb_drewN g1 _) (gb_set _ g 2 (.int .i64 10)), (hR1.drewN _).bad 10⟩
    · have hw : wrongS s.data.toList st = ⟨st.at_, 80⟩ := by unfold wrongS; rw [if_pos hb, if_neg (by simpa using hend)]
      rw [hw]
      clear hw
      have hend2 : ¬ (s.size : Int) ≤ st.at_ := by omega
      refine calls_of_wpQ Try.func38 rfl ?_
      intro Q hQ
      simp only [Try.ntmps38, List.size_toArray, List.length_cons, List.length_nil, Nat.reduceAdd, Nat.reduceSub, Array.replicate_succ, Array.replicate_zero, List.push_toArray, List.append_toArray, List.nil_append, List.cons_append]
      go_wp2
      go_quiet (fail)
      all_goals go_wp2
      all_goals
        refine ends_end hQ (results_none rfl _ _ _) rfl ?_
        exact ⟨rfl, gb_drewN g1 _, hR1.drewN _⟩
  · have hw : wrongS s.data.toList st = st := by unfold wrongS; rw [if_neg hb]
    rw [hw]
    clear hw
    have hbb : (st.bad != 0) = true := by simpa using hb
    refine calls_of_wpQ Try.func38 rfl ?_
    intro Q hQ
    simp only [Try.ntmps38, List.size_toArray, List.length_cons, List.length_nil, Nat.reduceAdd, Nat.reduceSub, Array.replicate_succ, Array.replicate_zero, List.push_toArray, List.append_toArray, List.nil_append, List.cons_append]
    go_wp2
    refine ends_ret hQ (results_none rfl _ _ _) rfl ?_
    exact ⟨rfl, gb_refl _ _, h⟩
theorem mustS_one (sl : List UInt8) (c : UInt8) (t : List UInt8) {a : Nat} : mustS sl (c :: t) ⟨a, 0⟩ = if sl[a]? = some c then mustS sl t ⟨a + 1, 0⟩ else wrongS sl ⟨a, 0⟩ := by
  rw [mustS, if_neg (by simp)]
theorem now_ok (sl : List UInt8) (a : Nat) : nowS sl ⟨a, 0⟩ = match sl[a]? with
  | some c => (c.toNat : Int)
  | none => -1 := rfl
set_option maxHeartbeats 1600000 in
theorem take_any (s t : ByteArray) (st : St) (may : Bool) (g : Nat) (w : World) (hs : s.size ≤ 400) (ht : t.size ≤ 100) (ht0 : 0 < t.size) (h : RP w g s st may) :
    Calls Try.prog 22 #[.pointer (some ⟨g, 0, none⟩), .string t] w fun e w' => e = .returned (.tuple #[]) ∧ w.grownBy w' (some g) ∧ RP w' g s (mustS s.data.toList t.data.toList st) may := by
  obtain ⟨R, hR⟩ : ∃ R, mustS s.data.toList t.data.toList st = R := ⟨_, rfl⟩
  have hR0 : Hid (R = mustS s.data.toList (t.data.toList.drop 0) st) := by rw [Hid, List.drop_zero, hR]
  rw [hR]
  replace hR := hid_mk hR
  refine calls_of_wpQ Try.func22 rfl ?_
  intro Q hQ
  simp only [Try.ntmps22, List.size_toArray, List.length_cons, List.length_nil, Nat.reduceAdd, Nat.reduceSub, Array.replicate_succ, Array.replicate_zero, List.push_toArray, List.append_toArray, List.nil_append, List.cons_append]
  go_wp2
  go_loopw [4] (fun iv wr => ∃ (i : Nat) (st' : St), iv = .int .i64 i ∧ i ≤ t.size ∧ (st'.bad ≠ 0 → i < t.size) ∧ Hid (RP wr g s st' may) ∧ Hid (R = mustS s.data.toList (t.data.toList.drop i) st') ∧ Hid (w.grownBy wr (some g))) (fun iv _ => t.size - (intOf iv).toNat)
  case atStart => exact ⟨0, st, rfl, Nat.zero_le _, (fun _ => ht0), h, hR0, gb_refl _ _⟩
  case round =>
    clear hR0
    obtain ⟨i, st', rfl, hi, hbi, hX, hRi, hg⟩ := hrel
    by_cases hlt : i < t.size
    · have i0 : (0 : Int) ≤ i := by omega
      have i1 : (i : Int) < t.size := by omega
      have hcn := t[i].toNat_lt
      have wc : IntKind.i64.wrap (t[i].toNat : Int) = (t[i].toNat : Int) := IntWalk.i64_in _ (by omega)
      have hti := drop_of_get (byte_at hlt)
      obtain ⟨N, hN⟩ : ∃ N, nowS s.data.toList st' = N := ⟨_, rfl⟩
      by_cases hc : isS s.data.toList t[i] st' = true
      · obtain ⟨hb0, hlen⟩ := isS_lt hc
        obtain ⟨a, b⟩ := st'
        dsimp only at hb0 hlen
        subst hb0
        have hat : a < s.size := by simpa using hlen
        have hget : s.data.toList[a]? = some t[i] := by
          unfold isS at hc
          simpa using hc
        have hRn : Hid (R = mustS s.data.toList (t.data.toList.drop (i + 1)) ⟨a + 1, 0⟩) := by rw [Hid, hRi.out, hti, mustS_one, if_pos hget]
        have hNe : N = (t[i].toNat : Int) := by rw [now_is, hN] at hc; simpa using hc
        subst hNe
        have hnb : ((t[i].toNat : Int) != (t[i].toNat : Int)) = false := by simp
        have wa : IntKind.i64.wrap ((a : Int) + 1) = (a : Int) + 1 := IntWalk.i64_in _ (by omega)
        replace hc := hid_mk hc
        replace hti := hid_mk hti
        replace hget := hid_mk hget
        replace hN := hid_mk hN
        go_wp2_with fail
        go_region_held3 (fun _ => True) (trivial) (first | (go_at_call 23; refine (now_any s ⟨a, 0⟩ may g _ (hX.out.drewN _)).mono ?_; rw [hN.out]; rintro e w2 ⟨rfl, hb2⟩; have hX2 := hid_mk (RP.keep (hX.out.drewN _) hb2); have hg2 := hid_mk (gb_trans (gb_drewN hg.out _) (gb_of hb2)); clear hb2))
        all_goals
          obtain ⟨x0, c0, c1, c2, c3, f1, f2, f3⟩ := hX2.out.cells_
          dsimp only at c1 c2
          go_wp2
          go_roundw
          case rel => exact ⟨i + 1, ⟨a + 1, 0⟩, by go_num, by omega, (fun hh => absurd rfl hh), hX2.out.next, hRn, gb_trans hg2.out (gb_set _ g 1 _)⟩
          case measure => simp [intOf]; omega
      · have hRn : Hid (R = wrongS s.data.toList st') := by
          rw [Hid, hRi.out, hti, mustS]
          by_cases hb : st'.bad = 0
          · rw [if_neg (by simpa using hb), if_neg (fun e => hc (by unfold isS; rw [e, decide_eq_true hb]; simp))]
          · rw [if_pos hb]; unfold wrongS; rw [if_neg hb]
        have hne : ¬ N = (t[i].toNat : Int) := fun e => hc (by rw [now_is, hN, e]; simp)
        have hnb : (N != (t[i].toNat : Int)) = true := by simpa using hne
        replace hc := hid_mk hc
        replace hne := hid_mk hne
        replace hti := hid_mk hti
        replace hN := hid_mk hN
        go_wp2_with fail
        go_region_held3 (fun _ => True) (trivial) (first | (go_at_call 23; refine (now_any s st' may g _ (hX.out.drewN _)).mono ?_; rw [hN.out]; rintro e w2 ⟨rfl, hb2⟩; have hX2 := hid_mk (RP.keep (hX.out.drewN _) hb2); have hg2 := hid_mk (gb_trans (gb_drewN hg.out _) (gb_of hb2)); clear hb2))
        all_goals go_wp2_with fail
        all_goals
          refine (rwrong_any s st' may g _ hX2.out).mono ?_
          rintro e w3 ⟨rfl, g3, hX3⟩
          go_wp2
          refine ends_ret hQ (results_none rfl _ _ _) rfl ?_
          exact ⟨rfl, gb_trans hg2.out g3, by rw [hRn.out]; exact hX3⟩
    · have hRn : Hid (R = st') := by rw [Hid, hRi.out, List.drop_eq_nil_of_le (by simp; omega), mustS]
      go_wp2
      refine ends_end hQ (results_none rfl _ _ _) rfl ?_
      exact ⟨rfl, hg.out, by rw [hRn.out]; exact hX.out⟩
theorem numL_digit' (sl : List UInt8) (n : Int) (a : Nat) (c : UInt8) (l : List UInt8) (hd : 48 ≤ c.toNat ∧ c.toNat ≤ 57) :
    numL sl false n a (c :: l) = if n = 0 ∨ 1000000 < 10 * n + ((c.toNat : Int) - 48) then (0, wrongS sl ⟨a, 0⟩) else numL sl false (10 * n + ((c.toNat : Int) - 48)) (a + 1) l := by
  rw [numL, if_pos hd]
  simp
set_option maxRecDepth 100000 in
set_option maxHeartbeats 6400000 in
theorem rnumber_any (s : ByteArray) (st : St) (may : Bool) (g : Nat) (w : World) (hs : s.size ≤ 400) (h : RP w g s st may) :
    Calls Try.prog 37 #[.pointer (some ⟨g, 0, none⟩)] w fun e w' => e = .returned (.int .i64 (numS s.data.toList st).1) ∧ w.grownBy w' (some g) ∧ RP w' g s (numS s.data.toList st).2 may := by
  obtain ⟨R, hR⟩ : ∃ R, numS s.data.toList st = R := ⟨_, rfl⟩
  obtain ⟨N, hN⟩ : ∃ N, nowS s.data.toList st = N := ⟨_, rfl⟩
  by_cases hdg : 48 ≤ N ∧ N ≤ 57
  case neg =>
    have hRn : Hid (R = (0, wrongS s.data.toList st)) := by
      rw [Hid, ← hR]
      unfold numS
      by_cases hb : st.bad = 0
      · rw [if_pos hb]
        obtain ⟨a, b⟩ := st
        dsimp only at hb ⊢
        subst hb
        rw [now_ok] at hN
        cases hx : s.data.toList.drop a with
        | nil => rw [numL]; rfl
        | cons c l =>
          have hget : s.data.toList[a]? = some c := by
            have : (s.data.toList.drop a)[0]? = some c := by rw [hx]; rfl
            simpa using this
          rw [hget] at hN
          dsimp only at hN
          rw [numL, if_neg (by omega)]
          rfl
      · rw [if_neg hb]; unfold wrongS; rw [if_neg hb]
    rw [hR]
    clear hR
    replace hN := hid_mk hN
    by_cases h1 : N < 48
    · clear hdg
      refine calls_of_wpQ Try.func37 rfl ?_
      intro Q hQ
      simp only [Try.ntmps37, List.size_toArray, List.length_cons, List.length_nil, Nat.reduceAdd, Nat.reduceSub, Array.replicate_succ, Array.replicate_zero, List.push_toArray, List.append_toArray, List.nil_append, List.cons_append]
      go_wp2_with fail
      refine (now_any s st may g _ h).mono ?_
      rw [hN.out]
      rintro e w2 ⟨rfl, hb2⟩
      have hX2 := hid_mk (RP.keep h hb2)
      have hg2 := hid_mk (gb_of (row := some g) hb2)
      clear hb2
      go_wp2_with fail
      refine (rwrong_any s st may g _ hX2.out).mono ?_
      rintro e w3 ⟨rfl, g3, hX3⟩
      go_wp2
      refine ends_ret hQ (results_tmp rfl _ _ _) rfl ?_
      exact ⟨by rw [hRn.out]; rfl, gb_trans hg2.out g3, by rw [hRn.out]; exact hX3⟩
    · have h2 : 57 < N := by omega
      clear hdg
      refine calls_of_wpQ Try.func37 rfl ?_
      intro Q hQ
      simp only [Try.ntmps37, List.size_toArray, List.length_cons, List.length_nil, Nat.reduceAdd, Nat.reduceSub, Array.replicate_succ, Array.replicate_zero, List.push_toArray, List.append_toArray, List.nil_append, List.cons_append]
      go_wp2_with fail
      refine (now_any s st may g _ h).mono ?_
      rw [hN.out]
      rintro e w2 ⟨rfl, hb2⟩
      have hX2 := hid_mk (RP.keep h hb2)
      have hg2 := hid_mk (gb_of (row := some g) hb2)
      clear hb2
      go_wp2_with fail
      refine (now_any s st may g _ hX2.out).mono ?_
      rw [hN.out]
      rintro e w2b ⟨rfl, hb2⟩
      have hX2b := hid_mk (RP.keep hX2.out hb2)
      have hg2b := hid_mk (gb_trans hg2.out (gb_of hb2))
      clear hb2
      go_wp2_with fail
      refine (rwrong_any s st may g _ hX2b.out).mono ?_
      rintro e w3 ⟨rfl, g3, hX3⟩
      go_wp2
      refine ends_ret hQ (results_tmp rfl _ _ _) rfl ?_
      exact ⟨by rw [hRn.out]; rfl, gb_trans hg2b.out g3, by rw [hRn.out]; exact hX3⟩
  obtain ⟨a, b⟩ := st
  have hb : b = 0 := by
    rcases Decidable.em (b = 0) with h0 | h0
    · exact h0
    · have : N = -1 := by rw [← hN]; exact if_neg h0
      omega
  subst hb
  have hN2 := hN
  rw [now_ok] at hN2
  obtain ⟨c, hget⟩ : ∃ c, s.data.toList[a]? = some c := by
    cases hx : s.data.toList[a]? with
    | none => rw [hx] at hN2; dsimp only at hN2; omega
    | some c => exact ⟨c, rfl⟩
  rw [hget] at hN2
  dsimp only at hN2
  have hat : a < s.size := by have := (List.getElem?_eq_some_iff.1 hget).1; simpa using this
  have hR0 : Hid (R = numL s.data.toList false (N - 48) (a + 1) (s.data.toList.drop (a + 1))) := by
    rw [Hid, ← hR]
    unfold numS
    rw [if_pos rfl]
    dsimp only
    rw [drop_of_get hget, numL, if_pos (by omega), if_neg (by simp; omega), hN2]
    congr 1
    omega
  rw [hR]
  clear hR hget
  replace hN := hid_mk hN
  replace hN2 := hid_mk hN2
  have w48 : IntKind.i64.wrap (N - 48) = N - 48 := IntWalk.i64_in _ (by omega)
  have wa1 : IntKind.i64.wrap ((a : Int) + 1) = (a : Int) + 1 := IntWalk.i64_in _ (by omega)
  obtain ⟨d1, d2⟩ := hdg
  refine calls_of_wpQ Try.func37 rfl ?_
  intro Q hQ
  simp only [Try.ntmps37, List.size_toArray, List.length_cons, List.length_nil, Nat.reduceAdd, Nat.reduceSub, Array.replicate_succ, Array.replicate_zero, List.push_toArray, List.append_toArray, List.nil_append, List.cons_append]
  go_wp2_with fail
  refine (now_any s ⟨a, 0⟩ may g _ h).mono ?_
  rw [hN.out]
  rintro e w2 ⟨rfl, hb2⟩
  have hX2 := hid_mk (RP.keep h hb2)
  have hg2 := hid_mk (gb_of (row := some g) hb2)
  clear hb2
  go_wp2_with fail
  refine (now_any s ⟨a, 0⟩ may g _ hX2.out).mono ?_
  rw [hN.out]
  rintro e w3 ⟨rfl, hb2⟩
  have hX3 := hid_mk (RP.keep hX2.out hb2)
  have hg3 := hid_mk (gb_trans hg2.out (gb_of hb2))
  clear hb2 hX2 hg2
  go_wp2_with fail
  refine (now_any s ⟨a, 0⟩ may g _ hX3.out).mono ?_
  rw [hN.out]
  rintro e w4 ⟨rfl, hb2⟩
  have hX4 := hid_mk (RP.keep hX3.out hb2)
  have hg4 := hid_mk (gb_trans hg3.out (gb_of hb2))
  clear hb2 hX3 hg3
  obtain ⟨x0, c0, c1, c2, c3, f1, f2, f3⟩ := hX4.out.cells_
  dsimp only at c1 c2
  have hX5 := hid_mk hX4.out.next
  have hg5 := hid_mk (gb_trans hg4.out (gb_set w4 g 1 (.int .i64 ((a : Int) + 1))))
  go_wp2_with fail
  go_loopw [3] (fun nv wr => ∃ (n : Int) (a' : Nat), nv = .int .i64 n ∧ 0 ≤ n ∧ n ≤ 1000000 ∧ a' ≤ s.size ∧ Hid (RP wr g s ⟨a', 0⟩ may) ∧ Hid (R = numL s.data.toList false n a' (s.data.toList.drop a')) ∧ Hid (w.grownBy wr (some g))) (fun _ wr => s.size - (match wr.cell? ⟨g, 1, none⟩ with | some (.int _ a) => a.toNat | _ => 0))
  case atStart => exact ⟨N - 48, a + 1, rfl, by omega, by omega, by omega, hX5, hR0, hg5⟩
  case round =>
    clear hX5 hg5 hR0 x0 c0 c1 c2 c3 f1 f2 f3 hX4 hg4
    obtain ⟨n, a', rfl, hn0, hn1, hsz, hX, hRn, hg⟩ := hrel
    have q1 := hX.out.cells_.2.2.1
    dsimp only at q1
    obtain ⟨M, hM⟩ : ∃ M, nowS s.data.toList ⟨a', 0⟩ = M := ⟨_, rfl⟩
    by_cases m1 : 48 ≤ M
    · by_cases m2 : M ≤ 57
      · have hM2 := hM
        rw [now_ok] at hM2
        obtain ⟨c', hget⟩ : ∃ c', s.data.toList[a']? = some c' := by
          cases hx : s.data.toList[a']? with
          | none => rw [hx] at hM2; dsimp only at hM2; omega
          | some c' => exact ⟨c', rfl⟩
        rw [hget] at hM2
        dsimp only at hM2
        have hat' : a' < s.size := by have := (List.getElem?_eq_some_iff.1 hget).1; simpa using this
        have hRm : Hid (R = if n = 0 ∨ 1000000 < 10 * n + (M - 48) then (0, wrongS s.data.toList ⟨a', 0⟩) else numL s.data.toList false (10 * n + (M - 48)) (a' + 1) (s.data.toList.drop (a' + 1))) := by
          rw [Hid, hRn.out, drop_of_get hget, numL_digit' _ _ _ _ _ (by omega), hM2]
        clear hM2 hget
        replace hM := hid_mk hM
        have v1 : IntKind.i64.wrap (10 * n) = 10 * n := IntWalk.i64_in _ (by omega)
        have v2 : IntKind.i64.wrap (10 * n + M) = 10 * n + M := IntWalk.i64_in _ (by omega)
        have v3 : IntKind.i64.wrap (10 * n + M - 48) = 10 * n + (M - 48) := by rw [show 10 * n + M - 48 = 10 * n + (M - 48) from by omega]; exact IntWalk.i64_in _ (by omega)
        have v4 : IntKind.i64.wrap ((a' : Int) + 1) = (a' : Int) + 1 := IntWalk.i64_in _ (by omega)
        go_wp2_with fail
        refine (now_any s ⟨a', 0⟩ may g _ hX.out).mono ?_
        rw [hM.out]
        rintro e w5 ⟨rfl, hb2⟩
        have hX5 := hid_mk (RP.keep hX.out hb2)
        have hg5 := hid_mk (gb_trans hg.out (gb_of hb2))
        clear hb2
        go_wp2_with fail
        refine (now_any s ⟨a', 0⟩ may g _ hX5.out).mono ?_
        rw [hM.out]
        rintro e w6 ⟨rfl, hb2⟩
        have hX6 := hid_mk (RP.keep hX5.out hb2)
        have hg6 := hid_mk (gb_trans hg5.out (gb_of hb2))
        clear hb2 hX5 hg5
        go_wp2_with fail
        refine (now_any s ⟨a', 0⟩ may g _ hX6.out).mono ?_
        rw [hM.out]
        rintro e w7 ⟨rfl, hb2⟩
        have hX7 := hid_mk (RP.keep hX6.out hb2)
        have hg7 := hid_mk (gb_trans hg6.out (gb_of hb2))
        clear hb2 hX6 hg6
        obtain ⟨x0, c0, c1, c2, c3, f1, f2, f3⟩ := hX7.out.cells_
        dsimp only at c1 c2
        by_cases hz : n = 0
        · have hRw : Hid (R = (0, wrongS s.data.toList ⟨a', 0⟩)) := by rw [Hid, hRm.out, if_pos (.inl hz)]
          subst hz
          go_wp2_with fail
          refine (rwrong_any s ⟨a', 0⟩ may g _ hX7.out).mono ?_
          rintro e w8 ⟨rfl, g8, hX8⟩
          go_wp2
          refine ends_ret hQ (results_tmp rfl _ _ _) rfl ?_
          exact ⟨by rw [hRw.out]; rfl, gb_trans hg7.out g8, by rw [hRw.out]; exact hX8⟩
        · have hzb : (n == 0) = false := by simpa using hz
          by_cases hbig : 1000000 < 10 * n + (M - 48)
          · have hRw : Hid (R = (0, wrongS s.data.toList ⟨a', 0⟩)) := by rw [Hid, hRm.out, if_pos (.inr hbig)]
            go_wp2_with fail
            refine (rwrong_any s ⟨a', 0⟩ may g _ hX7.out).mono ?_
            rintro e w8 ⟨rfl, g8, hX8⟩
            go_wp2
            refine ends_ret hQ (results_tmp rfl _ _ _) rfl ?_
            exact ⟨by rw [hRw.out]; rfl, gb_trans hg7.out g8, by rw [hRw.out]; exact hX8⟩
          · have hRw : Hid (R = numL s.data.toList false (10 * n + (M - 48)) (a' + 1) (s.data.toList.drop (a' + 1))) := by rw [Hid, hRm.out, if_neg (by omega)]
            have hmz : s.size - (a' + 1) < s.size - a' := Nat.sub_lt_sub_left hat' (Nat.lt_succ_self a')
            go_wp2_with fail
            go_roundw
            case rel => exact ⟨10 * n + (M - 48), a' + 1, rfl, by omega, by omega, by omega, hX7.out.next, hRw, gb_trans hg7.out (gb_set _ g 1 _)⟩
            case measure => simp [World.cell?_setCell_same', c1, q1]; exact hmz
      · have hRm : Hid (R = (n, ⟨a', 0⟩)) := by
          rw [Hid, hRn.out]
          rw [now_ok] at hM
          cases hx : s.data.toList.drop a' with
          | nil => rw [numL]; rfl
          | cons c' l =>
            have hget : s.data.toList[a']? = some c' := by
              have : (s.data.toList.drop a')[0]? = some c' := by rw [hx]; rfl
              simpa using this
            rw [hget] at hM
            dsimp only at hM
            rw [numL, if_neg (by omega)]
            rfl
        replace hM := hid_mk hM
        go_wp2_with fail
        refine (now_any s ⟨a', 0⟩ may g _ hX.out).mono ?_
        rw [hM.out]
        rintro e w5 ⟨rfl, hb2⟩
        have hX5 := hid_mk (RP.keep hX.out hb2)
        have hg5 := hid_mk (gb_trans hg.out (gb_of hb2))
        clear hb2
        go_wp2_with fail
        refine (now_any s ⟨a', 0⟩ may g _ hX5.out).mono ?_
        rw [hM.out]
        rintro e w6 ⟨rfl, hb2⟩
        have hX6 := hid_mk (RP.keep hX5.out hb2)
        have hg6 := hid_mk (gb_trans hg5.out (gb_of hb2))
        clear hb2
        go_wp2
        refine ends_ret hQ (results_tmp rfl _ _ _) rfl ?_
        exact ⟨by rw [hRm.out]; rfl, hg6.out, by rw [hRm.out]; exact hX6.out⟩
    · have hRm : Hid (R = (n, ⟨a', 0⟩)) := by
        rw [Hid, hRn.out]
        rw [now_ok] at hM
        cases hx : s.data.toList.drop a' with
        | nil => rw [numL]; rfl
        | cons c' l =>
          have hget : s.data.toList[a']? = some c' := by
            have : (s.data.toList.drop a')[0]? = some c' := by rw [hx]; rfl
            simpa using this
          rw [hget] at hM
          dsimp only at hM
          rw [numL, if_neg (by omega)]
          rfl
      replace hM := hid_mk hM
      go_wp2_with fail
      refine (now_any s ⟨a', 0⟩ may g _ hX.out).mono ?_
      rw [hM.out]
      rintro e w5 ⟨rfl, hb2⟩
      have hX5 := hid_mk (RP.keep hX.out hb2)
      have hg5 := hid_mk (gb_trans hg.out (gb_of hb2))
      clear hb2
      go_wp2
      refine ends_ret hQ (results_tmp rfl _ _ _) rfl ?_
      exact ⟨by rw [hRm.out]; rfl, hg5.out, by rw [hRm.out]; exact hX5.out⟩
end Go.Proofs.Ytfafinnklniniaa
