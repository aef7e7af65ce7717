/-
  WHAT IS PROVED HERE: what merkle's Prove and Check hand back. Conditions: texts of at most 2^38 bytes, slices of at most 2^43 strings.
-/
import Derived.Test.YtlnncpilgpafdaaMrk2
namespace Go.Proofs.Ytlnncpilgpafdaa
open Go.RowKit

def RetProof (w : World) (ps : List ByteArray) (e : Ending) (w' : World) : Prop := ∃ A n c, e = .returned (.tuple #[.slice A n c, .int .i64 0]) ∧ n ≤ c ∧ Strs w' w.heap.size A n ps ∧ Below w.heap.size w w'
theorem Prove_bad (A : Option Addr) (n cap : Nat) (ss : List ByteArray) (i : Int) (w : World) {B : Nat} (h : Strs w B A n ss) (hn : n ≤ 8796093022208) (hr : rightS ss ≠ 0) :
    Calls Try.prog 13 #[.slice A n cap, .int .i64 i] w fun e w' => e = .returned (.tuple #[.slice none 0 0, .int .i64 (rightS ss)]) ∧ w = w' := by
  obtain ⟨r, hrr⟩ : ∃ r, rightS ss = r := ⟨_, rfl⟩
  rw [hrr] at hr ⊢
  have hne : (r != 0) = true := by simpa using hr
  replace hrr := hid_mk hrr
  clear hr
  refine calls_of_wpQ Try.func13 rfl ?_
  intro Q hQ
  simp only [Try.ntmps13, List.size_toArray, List.length_cons, List.length_nil, Nat.reduceAdd, Nat.reduceSub, Array.replicate_succ, Array.replicate_zero, List.push_toArray, List.append_toArray, List.nil_append, List.cons_append]
  go_wp2_with fail
  refine (right_any A n cap ss _ h hn).mono ?_
  rw [hrr.out]
  rintro e w1 ⟨rfl, rfl⟩
  go_wp2
  refine ends_ret hQ (results_tmp2 rfl _ _ _) rfl ?_
  exact ⟨rfl, rfl⟩
theorem Prove_out (A : Option Addr) (n cap : Nat) (ss : List ByteArray) (i : Int) (w : World) {B : Nat} (h : Strs w B A n ss) (hn : n ≤ 8796093022208) (hr : rightS ss = 0) (hi : i < 0 ∨ n ≤ i) :
    Calls Try.prog 13 #[.slice A n cap, .int .i64 i] w fun e w' => e = .returned (.tuple #[.slice none 0 0, .int .i64 1]) ∧ w = w' := by
  replace hr := hid_mk hr
  rcases (by omega : i < 0 ∨ (0 ≤ i ∧ n ≤ i)) with hi | ⟨hi, hi2⟩
  all_goals
    refine calls_of_wpQ Try.func13 rfl ?_
    intro Q hQ
    simp only [Try.ntmps13, List.size_toArray, List.length_cons, List.length_nil, Nat.reduceAdd, Nat.reduceSub, Array.replicate_succ, Array.replicate_zero, List.push_toArray, List.append_toArray, List.nil_append, List.cons_append]
    go_wp2_with fail
    refine (right_any A n cap ss _ h hn).mono ?_
    rw [hr.out]
    rintro e w1 ⟨rfl, rfl⟩
    go_wp2
    refine ends_ret hQ (results_tmp2 rfl _ _ _) rfl ?_
    exact ⟨rfl, rfl⟩
set_option maxHeartbeats 3200000 in
theorem Prove_some (A : Option Addr) (n cap : Nat) (ss : List ByteArray) (i : Nat) (w : World) {B : Nat} (h : Strs w B A n ss) (hc : n ≤ cap) (hr : rightS ss = 0) (hi : i < n) :
    Calls Try.prog 13 #[.slice A n cap, .int .i64 i] w (RetProof w (proofW dB ss i)) := by
  obtain ⟨j0, hj0, hjz, hj1, hj2⟩ := info_parts16 strJ
  obtain ⟨hr1, hr2⟩ := rightS_0 hr
  have hlen := h.len
  have hn : n ≤ 4096 := by omega
  have hR0 : Hid (Strs w w.heap.size A n ss) := Reads.topS h
  have h32 : Hid (∀ s ∈ ss, s.size = 32) := hr2
  have ho0 : OwnM w w.heap.size 9 (.slice none 0 0) 0 (([] : List ByteArray).map vstr) := OwnM.nil
  have hi0 : (0 : Int) ≤ i := by omega
  have hi1 : (i : Int) < n := by omega
  have hd1 : decide (n ≤ i) = false := decide_eq_false (by omega)
  have hd2 : decide ((i : Int) < 0) = false := decide_eq_false (by omega)
  replace hr := hid_mk hr
  clear hr1 hr2 hlen
  refine calls_of_wpQ Try.func13 rfl ?_
  intro Q hQ
  simp only [Try.ntmps13, List.size_toArray, List.length_cons, List.length_nil, Nat.reduceAdd, Nat.reduceSub, Array.replicate_succ, Array.replicate_zero, List.push_toArray, List.append_toArray, List.nil_append, List.cons_append]
  go_wp2_with fail
  refine (right_any A n cap ss _ h (by omega)).mono ?_
  rw [hr.out]
  rintro e w1 ⟨rfl, rfl⟩
  clear h
  go_wp2
  go_loopw [1, 7, 8] (fun iv o s wr => ∃ (j n' c' m co : Nat) (A' Ao : Option Addr) (row outs : List ByteArray), iv = .int .i64 j ∧ j < n' ∧ s = .slice A' n' c' ∧ n' ≤ c' ∧ n' ≤ 4096 ∧ o = .slice Ao m co ∧ m ≤ co ∧ Hid (m + n' ≤ 8192) ∧ Hid (∀ b o, A' = some ⟨b, o, none⟩ → (Value.slice Ao m co).ownBlock ≠ some b) ∧ Hid (Strs wr wr.heap.size A' n' row) ∧ OwnM wr w.heap.size 9 (.slice Ao m co) m (outs.map vstr) ∧ Hid (proofW dB ss i = outs ++ proofW dB row j) ∧ Hid (∀ s ∈ row, s.size = 32) ∧ Hid (Below w.heap.size w wr)) (fun _ _ s _ => lenW s)
  case atStart => exact ⟨i, n, cap, 0, 0, A, none, ss, [], rfl, hi, rfl, hc, hn, rfl, Nat.le_refl _, (by rw [Hid]; omega), (fun b o _ => by simp [Value.ownBlock]), hR0, ho0, rfl, h32, hid_mk (Below.refl _ _)⟩
  case round =>
    clear hR0 h32 hc ho0
    obtain ⟨j, n', c', m, co, A', Ao, row, outs, rfl, hj, rfl, hc', hn', rfl, hmo, hmn, hap, hR, hown, hpr, h32, hb⟩ := hrel
    have hxor := xor_one j (by omega)
    have hm8 : m ≤ 8192 := by have := hmn.out; omega
    by_cases hlt : 1 < n'
    · have hl1 : 1 < row.length := by rw [hR.out.len]; exact hlt
      have hrl := hR.out.len
      have hal : Hid ((aboveL dB row).length = (n' + 1) / 2) := by rw [Hid, aboveL_len, hrl]
      have h32' : Hid (∀ s ∈ aboveL dB row, s.size = 32) := aboveL_32 dB dB_32 row h32.out
      obtain ⟨jh, hjhe⟩ : ∃ q, j / 2 = q := ⟨_, rfl⟩
      have hjh : (j : Int) / 2 = (jh : Int) := by omega
      by_cases hs : sib n' j
      · have hbs : beside j < n' := (beside_sib hj).2 hs
        have hps : Hid (proofW dB ss i = (outs ++ [row.getD (beside j) ByteArray.empty]) ++ proofW dB (aboveL dB row) jh) := by
          rw [← hjhe, Hid, hpr.out, proofW_sib dB hl1 (by rw [hrl]; exact hs), List.append_assoc]; rfl
        obtain ⟨q, hq⟩ : ∃ q, beside j = q := ⟨_, rfl⟩
        rw [hq] at hbs hps hxor
        obtain ⟨b0, o0, s, rfl, hbl, _, hsk, hcell⟩ := hR.out.at_ hbs
        have hsv : row.getD q ByteArray.empty = s := by rw [List.getD_eq_getElem?_getD, hsk]; rfl
        rw [hsv] at hps
        have k0 : (0 : Int) ≤ q := by omega
        have k1 : (q : Int) < n' := by omega
        replace hq := hid_mk hq
        replace hs := hid_mk hs
        replace hsk := hid_mk hsk
        clear hsv hl1 hrl
        go_wp2_with (at_builtin; refine wpl_append_new rfl (.tmp 37) (.tmp 42) 22 rfl 9 j0 _ 16 Try.underlying22 hj0 hjz hj1 hj2 rfl hb.out (.slice Ao m co) m _ rfl hown ([s].map vstr) 1 1 rfl _ rfl (by simp [Act.eval]) (vstr_one _) (by omega) (by omega) ?_; intro A5 c5 w5 hown5 hc5 q5 st hs5; rw [← List.map_append] at hown5)
        have hR5 : Strs w5 w5.heap.size (some ⟨b0, o0, none⟩) n' row := Reads.grow hR.out st.grown hap.out
        go_wp2_with fail
        refine (above_any _ n' c' row _ hR5 hn' hc' h32.out).mono ?_
        rintro e w6 ⟨A2, n2, c2, rfl, hc2, hS2, hb2, hnew⟩
        have q6 := hid_mk (after (w := w) hb2 q5).1
        have hown6 := hown5.below hb2
        have hn2 : n2 = (n' + 1) / 2 := by have := hS2.len; rw [hal.out] at this; omega
        have hn2a : jh < n2 ∧ n2 ≤ 4096 ∧ n2 < n' := by omega
        obtain ⟨hn2b, hn2c, hn2d⟩ := hn2a
        have hm2 : Hid (m + 1 + n2 ≤ 8192) := by have := hmn.out; rw [Hid]; omega
        have hap2 : Hid (∀ b o, A2 = some ⟨b, o, none⟩ → (Value.slice A5 (m + 1) c5).ownBlock ≠ some b) := by
          intro b o hb3 he
          have h1 := hnew b o hb3
          have h2 := (hown5.lt b he).2
          omega
        replace hn2 := hid_mk hn2
        replace hjhe := hid_mk hjhe
        clear hb2
        go_wp2
        go_roundw
        case rel => exact ⟨jh, n2, c2, m + 1, c5, A2, A5, _, outs ++ [s], rfl, hn2b, rfl, hc2, hn2c, rfl, hc5, hm2, hap2, Reads.topS hS2, hown6, hps, h32', q6⟩
        case measure => simp [lenW]; omega
      · have hbs : ¬ beside j < n' := fun e => hs ((beside_sib hj).1 e)
        have hps : Hid (proofW dB ss i = outs ++ proofW dB (aboveL dB row) jh) := by
          rw [← hjhe, Hid, hpr.out, proofW_lone dB hl1 (by rw [hrl]; exact hs)]
        obtain ⟨q, hq⟩ : ∃ q, beside j = q := ⟨_, rfl⟩
        rw [hq] at hbs hxor
        have k1 : ¬ (q : Int) < n' := by omega
        replace hq := hid_mk hq
        replace hs := hid_mk hs
        clear hl1 hrl
        go_wp2_with fail
        refine (above_any _ n' c' row _ hR.out hn' hc' h32.out).mono ?_
        rintro e w6 ⟨A2, n2, c2, rfl, hc2, hS2, hb2, hnew⟩
        have q6 := hid_mk (after (w := w) hb2 hb.out).1
        have hown6 := hown.below hb2
        have hn2 : n2 = (n' + 1) / 2 := by have := hS2.len; rw [hal.out] at this; omega
        have hn2a : jh < n2 ∧ n2 ≤ 4096 ∧ n2 < n' := by omega
        obtain ⟨hn2b, hn2c, hn2d⟩ := hn2a
        have hm2 : Hid (m + n2 ≤ 8192) := by have := hmn.out; rw [Hid]; omega
        have hap2 : Hid (∀ b o, A2 = some ⟨b, o, none⟩ → (Value.slice Ao m co).ownBlock ≠ some b) := by
          intro b o hb3 he
          have h1 := hnew b o hb3
          have h2 := (hown.lt b he).2
          omega
        replace hn2 := hid_mk hn2
        replace hjhe := hid_mk hjhe
        clear hb2
        go_wp2
        go_roundw
        case rel => exact ⟨jh, n2, c2, m, co, A2, Ao, _, outs, rfl, hn2b, rfl, hc2, hn2c, rfl, hmo, hm2, hap2, Reads.topS hS2, hown6, hps, h32', q6⟩
        case measure => simp [lenW]; omega
    · have hps : proofW dB ss i = outs := by
        rw [hpr.out, proofW_done dB (by rw [hR.out.len]; exact hlt), List.append_nil]
      go_wp2
      refine ends_ret hQ (results_tmp2 rfl _ _ _) rfl ?_
      exact ⟨Ao, m, co, rfl, hmo, by rw [hps]; exact hown.reads, hb.out⟩
end Go.Proofs.Ytlnncpilgpafdaa
