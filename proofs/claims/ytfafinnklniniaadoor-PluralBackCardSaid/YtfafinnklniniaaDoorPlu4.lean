/-
  WHAT IS PROVED HERE: what the reader's wrong, is, must and number do. Condition: the text is of at most 400 bytes.
-/
import Derived.Test.YtfafinnklniniaaDoorPluP
namespace Go.Proofs.YtfafinnklniniaaDoor
open Go.RowKit

theorem gb_refl (w : World) (g : Nat) : w.grownBy w (some g) := World.grownBy.refl w _
theorem gb_trans {a b c : World} {row : Option Nat} (h : a.grownBy b row) (k : b.grownBy c row) : a.grownBy c row :=
  ⟨k.os.trans h.os, k.tape.trans h.tape, k.output.trans h.output, Nat.le_trans h.size k.size, fun i hi hr => (k.block i (Nat.lt_of_lt_of_le hi h.size) hr).trans (h.block i hi hr)⟩
theorem gb_set (w : World) (g i : Nat) (u : Value) : w.grownBy (w.setCell ⟨g, i, none⟩ u) (some g) := ⟨rfl, rfl, rfl, by simp, fun k _ hk => heap_setCell_other w ⟨g, i, none⟩ k u (fun e => hk (by simp [e]))⟩
theorem gb_drewN {a b : World} {row : Option Nat} (h : a.grownBy b row) (n : Nat) : a.grownBy (b.drewN n) row := ⟨h.os, h.tape, h.output, h.size, h.block⟩
theorem gb_of {w w' : World} {row : Option Nat} (h : Below w.heap.size w w') : w.grownBy w' row := ⟨h.os, h.tape, h.output, h.size, fun i hi _ => h.block i hi⟩
/-- the reader's box -/
def Rdr (w : World) (g : Nat) (s : ByteArray) (st : St) : Prop := Blk w g 50 #[.string s, .int .i64 st.at_, .int .i64 st.bad]
theorem Rdr.cells_ {w : World} {g : Nat} {s : ByteArray} {st : St} (h : Rdr w g s st) :
    g < w.heap.size ∧ w.cell? ⟨g, 0, none⟩ = some (.string s) ∧ w.cell? ⟨g, 1, none⟩ = some (.int .i64 st.at_) ∧ w.cell? ⟨g, 2, none⟩ = some (.int .i64 st.bad) ∧ w.frozen? ⟨g, 1, none⟩ = false ∧ w.frozen? ⟨g, 2, none⟩ = false :=
  ⟨Blk.lt h, Blk.cell h 0, Blk.cell h 1, Blk.cell h 2, Blk.frozen h 1, Blk.frozen h 2⟩
theorem Rdr.drewN {w : World} {g : Nat} {s : ByteArray} {st : St} (h : Rdr w g s st) (n : Nat) : Rdr (w.drewN n) g s st := h
theorem Rdr.keep {w w' : World} {g : Nat} {s : ByteArray} {st : St} (h : Rdr w g s st) (hb : Below w.heap.size w w') : Rdr w' g s st := Blk.keep h hb
theorem Rdr.bad {w : World} {g : Nat} {s : ByteArray} {st : St} (h : Rdr w g s st) (b : Int) : Rdr (w.setCell ⟨g, 2, none⟩ (.int .i64 b)) g s ⟨st.at_, b⟩ := by
  have := Blk.set_ h 2 (.int .i64 b)
  simpa [Rdr] using this
theorem Rdr.next {w : World} {g : Nat} {s : ByteArray} {a : Nat} {b : Int} (h : Rdr w g s ⟨a, b⟩) : Rdr (w.setCell ⟨g, 1, none⟩ (.int .i64 ((a : Int) + 1))) g s ⟨a + 1, b⟩ := by
  have := Blk.set_ h 1 (.int .i64 ((a : Int) + 1))
  simpa [Rdr] using this
theorem byte_at {s : ByteArray} {k : Nat} (h : k < s.size) : s.data.toList[k]? = some s[k] := by
  have hl : k < s.data.toList.length := by simpa using h
  rw [List.getElem?_eq_getElem hl]
  rfl
theorem u8_ne {a b : UInt8} (h : a ≠ b) : (a.toNat : Int) ≠ (b.toNat : Int) := fun e => h (UInt8.toNat_inj.1 (by omega))

set_option maxHeartbeats 400000 in
theorem wrong_any (s : ByteArray) (st : St) (g : Nat) (w : World) (_hs : s.size ≤ 400) (h : Rdr w g s st) :
    Calls Tryd.prog 36 #[.pointer (some ⟨g, 0, none⟩)] w fun e w' => e = .returned (.tuple #[]) ∧ w.grownBy w' (some g) ∧ Rdr w' g s (wrongS s.data.toList st) := by
  obtain ⟨x0, c0, c1, c2, f1, f2⟩ := h.cells_
  by_cases hb : st.bad = 0
  · have hR1 := h.bad 80
    obtain ⟨y0, d0, d1, d2, e1, e2⟩ := hR1.cells_
    have g1 := gb_set w g 2 (.int .i64 80)
    rw [hb] at c2
    by_cases hend : s.size ≤ st.at_
    · have hw : wrongS s.data.toList st = ⟨st.at_, 10⟩ := by unfold wrongS; rw [if_pos hb, if_pos (by simpa using hend)]
      rw [hw]
      clear hw
      have hend2 : (s.size : Int) ≤ st.at_ := by omega
      refine calls_of_wpQ Tryd.func36 rfl ?_
      intro Q hQ
      simp only [Tryd.ntmps36, List.size_toArray, List.length_cons, List.length_nil, Nat.reduceAdd, Nat.reduceSub, Array.replicate_succ, Array.replicate_zero, List.push_toArray, List.append_toArray, List.nil_append, List.cons_append]
      go_wp2
      go_quiet (fail)
      all_goals go_wp2
      all_goals
        refine ends_end hQ (results_none rfl _ _ _) rfl ?_
        exact ⟨rfl, gb_trans (gb_drewN g1 _) (gb_set _ g 2 (.int .i64 10)), (hR1.drewN _).bad 10⟩
    · have hw : wrongS s.data.toList st = ⟨st.at_, 80⟩ := by unfold wrongS; rw [if_pos hb, if_neg (by simpa using hend)]
      rw [hw]
      clear hw
      have hend2 : ¬ (s.size : Int) ≤ st.at_ := by omega
      refine calls_of_wpQ Tryd.func36 rfl ?_
      intro Q hQ
      simp only [Tryd.ntmps36, List.size_toArray, List.length_cons, List.length_nil, Nat.reduceAdd, Nat.reduceSub, Array.replicate_succ, Array.replicate_zero, List.push_toArray, List.append_toArray, List.nil_append, List.cons_append]
      go_wp2
      go_quiet (fail)
      all_goals go_wp2
      all_goals
        refine ends_end hQ (results_none rfl _ _ _) rfl ?_
        exact ⟨rfl, gb_drewN g1 _, hR1.drewN _⟩
  · have hw : wrongS s.data.toList st = st := by unfold wrongS; rw [if_neg hb]
    rw [hw]
    clear hw
    have hbb : (st.bad == 0) = false := by simpa using hb
    refine calls_of_wpQ Tryd.func36 rfl ?_
    intro Q hQ
    simp only [Tryd.ntmps36, List.size_toArray, List.length_cons, List.length_nil, Nat.reduceAdd, Nat.reduceSub, Array.replicate_succ, Array.replicate_zero, List.push_toArray, List.append_toArray, List.nil_append, List.cons_append]
    go_wp2
    refine ends_end hQ (results_none rfl _ _ _) rfl ?_
    exact ⟨rfl, gb_refl _ _, h⟩
set_option maxHeartbeats 800000 in
theorem is_any (s : ByteArray) (st : St) (c : UInt8) (g : Nat) (w : World) (_hs : s.size ≤ 400) (h : Rdr w g s st) :
    Calls Tryd.prog 23 #[.pointer (some ⟨g, 0, none⟩), .int .u8 c.toNat] w fun e w' => e = .returned (.bool (isS s.data.toList c st)) ∧ Below w.heap.size w w' := by
  obtain ⟨x0, c0, c1, c2, f1, f2⟩ := h.cells_
  by_cases hb : st.bad = 0
  · rw [hb] at c2
    by_cases hend : st.at_ < s.size
    · have k0 : (0 : Int) ≤ st.at_ := by omega
      have k1 : (st.at_ : Int) < s.size := by omega
      by_cases hc : s[st.at_] = c
      · have hv : isS s.data.toList c st = true := by unfold isS; rw [byte_at hend, hb, hc]; simp
        rw [hv]
        clear hv
        have hcb : ((s[st.at_].toNat : Int) == (c.toNat : Int)) = true := by rw [hc]; simp
        replace hc := hid_mk hc
        refine calls_of_wpQ Tryd.func23 rfl ?_
        intro Q hQ
        simp only [Tryd.ntmps23, List.size_toArray, List.length_cons, List.length_nil, Nat.reduceAdd, Nat.reduceSub, Array.replicate_succ, Array.replicate_zero, List.push_toArray, List.append_toArray, List.nil_append, List.cons_append]
        go_wp2
        go_quiet (fail)
        all_goals go_wp2
        all_goals
          refine ends_ret hQ (results_tmp rfl _ _ _) rfl ?_
          exact ⟨rfl, below_drewN (Below.refl _ _) _⟩
      · have hv : isS s.data.toList c st = false := by unfold isS; rw [byte_at hend, hb]; simpa using hc
        rw [hv]
        clear hv
        have hcn := u8_ne hc
        have hcb : ((s[st.at_].toNat : Int) == (c.toNat : Int)) = false := by simpa using hcn
        replace hc := hid_mk hc
        replace hcn := hid_mk hcn
        refine calls_of_wpQ Tryd.func23 rfl ?_
        intro Q hQ
        simp only [Tryd.ntmps23, List.size_toArray, List.length_cons, List.length_nil, Nat.reduceAdd, Nat.reduceSub, Array.replicate_succ, Array.replicate_zero, List.push_toArray, List.append_toArray, List.nil_append, List.cons_append]
        go_wp2
        go_quiet (fail)
        all_goals go_wp2
        all_goals
          refine ends_ret hQ (results_tmp rfl _ _ _) rfl ?_
          exact ⟨rfl, below_drewN (Below.refl _ _) _⟩
    · have hv : isS s.data.toList c st = false := by unfold isS; rw [List.getElem?_eq_none (by simp; omega)]; simp
      rw [hv]
      clear hv
      have k1 : ¬ (st.at_ : Int) < s.size := by omega
      refine calls_of_wpQ Tryd.func23 rfl ?_
      intro Q hQ
      simp only [Tryd.ntmps23, List.size_toArray, List.length_cons, List.length_nil, Nat.reduceAdd, Nat.reduceSub, Array.replicate_succ, Array.replicate_zero, List.push_toArray, List.append_toArray, List.nil_append, List.cons_append]
      go_wp2
      go_quiet (fail)
      all_goals go_wp2
      all_goals
        refine ends_ret hQ (results_tmp rfl _ _ _) rfl ?_
        exact ⟨rfl, below_drewN (Below.refl _ _) _⟩
  · have hv : isS s.data.toList c st = false := by unfold isS; rw [decide_eq_false hb]; rfl
    rw [hv]
    clear hv
    have hbb : (st.bad == 0) = false := by simpa using hb
    refine calls_of_wpQ Tryd.func23 rfl ?_
    intro Q hQ
    simp only [Tryd.ntmps23, List.size_toArray, List.length_cons, List.length_nil, Nat.reduceAdd, Nat.reduceSub, Array.replicate_succ, Array.replicate_zero, List.push_toArray, List.append_toArray, List.nil_append, List.cons_append]
    go_wp2
    go_quiet (fail)
    all_goals go_wp2
    all_goals
      refine ends_ret hQ (results_tmp rfl _ _ _) rfl ?_
      exact ⟨rfl, below_drewN (Below.refl _ _) _⟩
set_option maxHeartbeats 1600000 in
theorem must_any (s t : ByteArray) (st : St) (g : Nat) (w : World) (hs : s.size ≤ 400) (ht : t.size ≤ 100) (ht0 : 0 < t.size) (h : Rdr w g s st) :
    Calls Tryd.prog 22 #[.pointer (some ⟨g, 0, none⟩), .string t] w fun e w' => e = .returned (.tuple #[]) ∧ w.grownBy w' (some g) ∧ Rdr w' g s (mustS s.data.toList t.data.toList st) := by
  obtain ⟨at0, b0⟩ := st
  by_cases hb : b0 = 0
  case neg =>
    have hw : mustS s.data.toList t.data.toList ⟨at0, b0⟩ = ⟨at0, b0⟩ := mustS_bad _ _ hb
    rw [hw]
    clear hw
    obtain ⟨x0, c0, c1, c2, f1, f2⟩ := h.cells_
    have hbb : (b0 == 0) = false := by simpa using hb
    have ht1 : (0 : Int) < t.size := by omega
    dsimp only at *
    refine calls_of_wpQ Tryd.func22 rfl ?_
    intro Q hQ
    simp only [Tryd.ntmps22, List.size_toArray, List.length_cons, List.length_nil, Nat.reduceAdd, Nat.reduceSub, Array.replicate_succ, Array.replicate_zero, List.push_toArray, List.append_toArray, List.nil_append, List.cons_append]
    go_wp2
    go_loopw [4] (fun iv wr => iv = .int .i64 0 ∧ wr = w) (fun _ _ => 0)
    case atStart => exact ⟨rfl, rfl⟩
    case round =>
      obtain ⟨rfl, rfl⟩ := hrel
      go_wp2
      refine ends_end hQ (results_none rfl _ _ _) rfl ?_
      exact ⟨rfl, gb_refl _ _, h⟩
  subst hb
  obtain ⟨R, hR⟩ : ∃ R, mustS s.data.toList t.data.toList ⟨at0, 0⟩ = R := ⟨_, rfl⟩
  have hR0 : Hid (R = mustS s.data.toList (t.data.toList.drop 0) ⟨at0, 0⟩) := by rw [Hid, List.drop_zero, hR]
  rw [hR]
  replace hR := hid_mk hR
  refine calls_of_wpQ Tryd.func22 rfl ?_
  intro Q hQ
  simp only [Tryd.ntmps22, List.size_toArray, List.length_cons, List.length_nil, Nat.reduceAdd, Nat.reduceSub, Array.replicate_succ, Array.replicate_zero, List.push_toArray, List.append_toArray, List.nil_append, List.cons_append]
  go_wp2
  go_loopw [4] (fun iv wr => ∃ i a : Nat, iv = .int .i64 i ∧ i ≤ t.size ∧ Hid (Rdr wr g s ⟨a, 0⟩) ∧ Hid (R = mustS s.data.toList (t.data.toList.drop i) ⟨a, 0⟩) ∧ Hid (w.grownBy wr (some g))) (fun iv _ => t.size - (intOf iv).toNat)
  case atStart => exact ⟨0, at0, rfl, Nat.zero_le _, h, hR0, gb_refl _ _⟩
  case round =>
    obtain ⟨i, a, rfl, hi, hX, hRi, hg⟩ := hrel
    obtain ⟨x0, c0, c1, c2, f1, f2⟩ := hX.out.cells_
    dsimp only at c1 c2
    by_cases hlt : i < t.size
    · have i0 : (0 : Int) ≤ i := by omega
      have i1 : (i : Int) < t.size := by omega
      have hti := drop_of_get (byte_at hlt)
      by_cases hend : a < s.size
      · have k0 : (0 : Int) ≤ a := by omega
        have k1 : (a : Int) < s.size := by omega
        by_cases hc : s[a] = t[i]
        · have hRn : Hid (R = mustS s.data.toList (t.data.toList.drop (i + 1)) ⟨a + 1, 0⟩) := by
            rw [Hid, hRi.out, hti, mustS, if_neg (by simp), byte_at hend, if_pos (by rw [hc])]
          have hcb : ((s[a].toNat : Int) != (t[i].toNat : Int)) = false := by rw [hc]; simp
          have hcb2 : ((s[a].toNat : Int) == (t[i].toNat : Int)) = true := by rw [hc]; simp
          have wa : IntKind.i64.wrap ((a : Int) + 1) = (a : Int) + 1 := IntWalk.i64_in _ (by omega)
          replace hc := hid_mk hc
          replace hti := hid_mk hti
          go_wp2
          go_quiet (fail)
          all_goals go_wp2
          all_goals
            go_roundw
            case rel => exact ⟨i + 1, a + 1, by go_num, by omega, (hX.out.drewN _).next, hRn, gb_trans (gb_drewN hg.out _) (gb_set _ g 1 _)⟩
            case measure => simp [intOf]; omega
        · have hRn : Hid (R = wrongS s.data.toList ⟨a, 0⟩) := by
            rw [Hid, hRi.out, hti, mustS, if_neg (by simp), byte_at hend, if_neg (by simpa using hc)]
          have hcn := u8_ne hc
          have hcb : ((s[a].toNat : Int) != (t[i].toNat : Int)) = true := by simpa using hcn
          have hcb2 : ((s[a].toNat : Int) == (t[i].toNat : Int)) = false := by simpa using hcn
          replace hc := hid_mk hc
          replace hcn := hid_mk hcn
          replace hti := hid_mk hti
          go_wp2
          go_quiet (fail)
          all_goals go_wp2_with fail
          all_goals
            refine (wrong_any s ⟨a, 0⟩ g _ hs (hX.out.drewN _)).mono ?_
            rintro e w2 ⟨rfl, g2, hX2⟩
            go_wp2
            refine ends_ret hQ (results_none rfl _ _ _) rfl ?_
            exact ⟨rfl, gb_trans (gb_drewN hg.out _) g2, by rw [hRn.out]; exact hX2⟩
      · have hRn : Hid (R = wrongS s.data.toList ⟨a, 0⟩) := by
          rw [Hid, hRi.out, hti, mustS, if_neg (by simp), List.getElem?_eq_none (by simp; omega), if_neg (by simp)]
        have k1 : (s.size : Int) ≤ a := by omega
        replace hti := hid_mk hti
        go_wp2
        go_quiet (fail)
        all_goals go_wp2_with fail
        all_goals
          refine (wrong_any s ⟨a, 0⟩ g _ hs (hX.out.drewN _)).mono ?_
          rintro e w2 ⟨rfl, g2, hX2⟩
          go_wp2
          refine ends_ret hQ (results_none rfl _ _ _) rfl ?_
          exact ⟨rfl, gb_trans (gb_drewN hg.out _) g2, by rw [hRn.out]; exact hX2⟩
    · have hRn : Hid (R = ⟨a, 0⟩) := by rw [Hid, hRi.out, List.drop_eq_nil_of_le (by simp; omega), mustS]
      go_wp2
      refine ends_end hQ (results_none rfl _ _ _) rfl ?_
      exact ⟨rfl, hg.out, by rw [hRn.out]; exact hX.out⟩
end Go.Proofs.YtfafinnklniniaaDoor
