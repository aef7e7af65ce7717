/-
  WHAT IS PROVED HERE: two lists of texts that are the same are alike; what the reference's Proof hands back. Condition: at most 4096 leaves, each a digest.
-/
import Derived.Test.YtlnncpilgpafdaaLaw05b
import Derived.Test.YtlnncpilgpafdaaMrk3
import Derived.Test.YtlnncpilgpafdaaLaw05a
import Derived.Test.YtlnncpilgpafdaaMrk8
namespace Go.Proofs.Ytlnncpilgpafdaa
open Go.RowKit

theorem Like_same (A1 : Option Addr) (n1 c1 : Nat) (A2 : Option Addr) (n2 c2 : Nat) (xs : List ByteArray) (w : World) {B1 B2 : Nat} (h1 : Strs w B1 A1 n1 xs) (h2 : Strs w B2 A2 n2 xs) (hn1 : n1 ≤ 8796093022208) :
    Calls Try.prog 15 #[.slice A1 n1 c1, .slice A2 n2 c2] w fun e w' => e = .returned (.bool true) ∧ Below w.heap.size w w' := by
  obtain rfl : n1 = n2 := by rw [← h1.len, ← h2.len]
  refine calls_of_wpQ Try.func15 rfl ?_
  intro Q hQ
  simp only [Try.ntmps15, List.size_toArray, List.length_cons, List.length_nil, Nat.reduceAdd, Nat.reduceSub, Array.replicate_succ, Array.replicate_zero, List.push_toArray, List.append_toArray, List.nil_append, List.cons_append]
  go_wp2
  go_loopw [13] (fun iv wr => ∃ (k : Nat), iv = .int .i64 k ∧ k ≤ n1 ∧ Hid (Below w.heap.size w wr)) (fun iv _ => n1 - (intOf iv).toNat)
  case atStart => exact ⟨0, rfl, Nat.zero_le _, hid_mk (Below.refl _ _)⟩
  case round =>
    obtain ⟨k, rfl, hk, hb⟩ := hrel
    by_cases hlt : k < n1
    · obtain ⟨b0, o0, x, rfl, hbl, _, hsx, hcx⟩ := h1.at_ hlt
      obtain ⟨b1, o1, y, rfl, hbl1, _, hsy, hcy⟩ := h2.at_ hlt
      obtain rfl : x = y := by rw [hsx] at hsy; injection hsy
      have c0 : wr.cell? ⟨b0, o0 + k, none⟩ = some (.string x) := ((bcell hb.out).1 _ _ hbl).trans hcx
      have c1 : wr.cell? ⟨b1, o1 + k, none⟩ = some (.string x) := ((bcell hb.out).1 _ _ hbl1).trans hcy
      have hne : (x.toList != x.toList) = false := by simp
      have hqq : (x.toList == x.toList) = true := by simp
      have k0 : (0 : Int) ≤ k := by omega
      have k1 : (k : Int) < n1 := by omega
      have hbr : b0 < wr.heap.size := Nat.lt_of_lt_of_le hbl hb.out.size
      have hbr1 : b1 < wr.heap.size := Nat.lt_of_lt_of_le hbl1 hb.out.size
      replace hsx := hid_mk hsx
      replace hsy := hid_mk hsy
      clear hcx hcy
      go_wp2_with fail
      go_quiet (fail)
      go_wp2
      go_roundw
      case rel => exact ⟨k + 1, by go_num, by omega, hid_mk (below_drewN hb.out _)⟩
      case measure => simp [intOf]; omega
    · go_wp2
      refine ends_ret hQ (results_tmp rfl _ _ _) rfl ?_
      exact ⟨rfl, hb.out⟩
set_option maxHeartbeats 3200000 in
theorem RProof_some (A : Option Addr) (n cap : Nat) (ss : List ByteArray) (i : Nat) (w : World) {B : Nat} (h : Strs w B A n ss) (hn : n ≤ 4096) (h32 : ∀ s ∈ ss, s.size = 32) (hi : i < n) :
    Calls Try.prog 16 #[.slice A n cap, .int .i64 i] w (fun e w' => ∃ A n c, e = .returned (.slice A n c) ∧ n ≤ c ∧ Strs w' w.heap.size A n (proofW dB ss i) ∧ Below w.heap.size w w') := by
  obtain ⟨j0, hj0, hjz, hj1, hj2⟩ := info_parts16 strJ
  have hM1 := made_new w w (Nat.le_refl _)
  have hb1 : Below w.heap.size w (w.alloc (.cells #[.slice none 0 0] 25)) := (Below.refl _ _).alloc (Nat.le_refl _) _
  have hb0 : Hid (Below w.heap.size w ((w.alloc (.cells #[.slice none 0 0] 25)).alloc (.cells #[] 9))) := hb1.alloc (by rw [World.size_alloc]; omega) _
  have hM0 : Hid (MadeIs ((w.alloc (.cells #[.slice none 0 0] 25)).alloc (.cells #[] 9)) w.heap.size w.heap.size (.slice none 0 0) []) := hM1.keep ((Below.refl _ _).alloc (Nat.le_refl _) _)
  have own0 : OwnM ((w.alloc (.cells #[.slice none 0 0] 25)).alloc (.cells #[] 9)) w.heap.size 9 (.slice (some ⟨w.heap.size + 1, 0, none⟩) 0 0) 0 (([] : List ByteArray).map vstr) := by
    have h1 := OwnM.of (World.ownsRow_lit (base := w.heap.size) (e := 9) (size := 1) (w.alloc (.cells #[.slice none 0 0] 25)) #[] 0 (by rw [World.size_alloc]; omega) (by unfold maxLen; omega) (by simp))
    rw [World.size_alloc] at h1
    exact h1
  have hR0 : Hid (Strs ((w.alloc (.cells #[.slice none 0 0] 25)).alloc (.cells #[] 9)) w.heap.size A n ss) := Strs.to (Reads.topS h) hb0.out
  have hA0 : Hid (Away A w.heap.size (Value.slice none 0 0).ownBlock) := away_old h (by omega) (Nat.le_refl _) (by simp [Value.ownBlock])
  have hap0 : Hid (∀ b o, A = some ⟨b, o, none⟩ → (Value.slice (some ⟨w.heap.size + 1, 0, none⟩) 0 0).ownBlock ≠ some b) := by
    intro b o hbo e
    obtain ⟨b2, o2, ea, hlt, _⟩ := h.2 (by omega)
    rw [hbo] at ea
    injection ea with ea
    injection ea with ea
    simp [Value.ownBlock] at e
    omega
  have h320 : Hid (∀ s ∈ ss, s.size = 32) := h32
  clear h h32 hM1 hb1
  refine calls_of_wpQ Try.func16 rfl ?_
  intro Q hQ
  simp only [Try.ntmps16, List.size_toArray, List.length_cons, List.length_nil, Nat.reduceAdd, Nat.reduceSub, Array.replicate_succ, Array.replicate_zero, List.push_toArray, List.append_toArray, List.nil_append, List.cons_append]
  go_wp2
  go_loopw [1, 6, 7] (fun iv o s wr => ∃ (j n' c' m co : Nat) (A' Ao : Option Addr) (row outs txs : List ByteArray) (v1 : Value), iv = .int .i64 j ∧ j < n' ∧ s = .slice A' n' c' ∧ n' ≤ 4096 ∧ o = .slice Ao m co ∧ m ≤ co ∧ Hid (m + n' ≤ 8192) ∧ Hid (txs.length + n' ≤ 4096) ∧ Hid (∀ b o, A' = some ⟨b, o, none⟩ → (Value.slice Ao m co).ownBlock ≠ some b) ∧ Hid (∀ k, (Value.slice Ao m co).ownBlock = some k → v1.ownBlock ≠ some k) ∧ Hid (Strs wr wr.heap.size A' n' row) ∧ Hid (Away A' w.heap.size v1.ownBlock) ∧ Hid (MadeIs wr w.heap.size w.heap.size v1 txs) ∧ OwnM wr w.heap.size 9 (.slice Ao m co) m (outs.map vstr) ∧ Hid (proofW dB ss i = outs ++ proofW dB row j) ∧ Hid (∀ s ∈ row, s.size = 32) ∧ Hid (Below w.heap.size w wr)) (fun _ _ s _ => lenW s)
  case atStart => exact ⟨i, n, cap, 0, 0, A, _, ss, [], [], _, rfl, hi, rfl, hn, rfl, Nat.le_refl _, (by rw [Hid]; omega), (by rw [Hid]; simp; omega), hap0, (fun k _ => by simp [Value.ownBlock]), Reads.topS hR0.out, hA0, hM0, own0, rfl, h320, hb0⟩
  case round =>
    clear hR0 h320 hM0 own0 hA0 hap0 hb0
    obtain ⟨j, n', c', m, co, A', Ao, row, outs, txs, v1, rfl, hj, rfl, hn', rfl, hmo, hmn, htx, hap, hav, hR, hA, hM, hown, hpr, h32, hb⟩ := hrel
    have hm8 : m ≤ 8192 := by have := hmn.out; omega
    by_cases hlt : 1 < n'
    · have hl1 : 1 < row.length := by rw [hR.out.len]; exact hlt
      have hrl := hR.out.len
      have hal : Hid ((aboveL dB row).length = (n' + 1) / 2) := by rw [Hid, aboveL_len, hrl]
      have htl : Hid ((aboveTs row).length = n' / 2) := by rw [Hid, aboveTs_half, hrl]
      have h32' : Hid (∀ s ∈ aboveL dB row, s.size = 32) := aboveL_32 dB dB_32 row h32.out
      have htsl : Hid (txs.length ≤ 500000) := by have := htx.out; rw [Hid]; omega
      obtain ⟨jh, hjhe⟩ : ∃ q, j / 2 = q := ⟨_, rfl⟩
      have hjh : (j : Int) / 2 = (jh : Int) := by omega
      have hj0' : (0 : Int) ≤ j := by omega
      rcases Nat.mod_two_eq_zero_or_one j with hev | hodd
      · have hmod : (j : Int) % 2 = 0 := by omega
        have hmod' : ((j : Int) % 2 == 1) = false := by rw [hmod]; rfl
        by_cases hs : j + 1 < n'
        · have hsn : sib row.length j := by rw [hrl]; exact Or.inr hs
          have hbe : beside j = j + 1 := by unfold beside; rw [if_pos hev]
          have hbs : j + 1 < n' := hs
          have hd : decide ((j : Int) + 1 < n') = true := decide_eq_true (by omega)
          replace hev := hid_mk hev
          have hps : Hid (proofW dB ss i = (outs ++ [row.getD (j + 1) ByteArray.empty]) ++ proofW dB (aboveL dB row) jh) := by
            rw [← hjhe, Hid, hpr.out, proofW_sib dB hl1 hsn, hbe, List.append_assoc]; rfl
          obtain ⟨q, hq⟩ : ∃ q, j + 1 = q := ⟨_, rfl⟩
          rw [hq] at hbs hps
          obtain ⟨b0, o0, s, rfl, hbl, _, hsk, hcell⟩ := hR.out.at_ hbs
          have hsv : row.getD q ByteArray.empty = s := by rw [List.getD_eq_getElem?_getD, hsk]; rfl
          rw [hsv] at hps
          have k0 : (0 : Int) ≤ q := by omega
          have k1 : (q : Int) < n' := by omega
          have k2 : (j : Int) + 1 = (q : Int) := by omega
          have kw : IntKind.i64.wrap ((j : Int) + 1) = (q : Int) := by rw [k2]; exact IntWalk.i64_in _ (by omega)
          replace hq := hid_mk hq
          replace k2 := hid_mk k2
          replace hsn := hid_mk hsn
          replace hbe := hid_mk hbe
          replace hsk := hid_mk hsk
          clear hsv hl1 hrl
          go_wp2_with (at_builtin; refine wpl_append_new rfl (.tmp 31) (.tmp 37) 22 rfl 9 j0 _ 16 Try.underlying22 hj0 hjz hj1 hj2 rfl hb.out (.slice Ao m co) m _ rfl hown ([s].map vstr) 1 1 rfl _ rfl (by simp [Act.eval]) (vstr_one _) (by omega) (by omega) ?_; intro A5 c5 w5 hown5 hc5 q5 st hs5; rw [← List.map_append] at hown5)
          have hR5 : Strs w5 w5.heap.size (some ⟨b0, o0, none⟩) n' row := Reads.grow hR.out st.grown hap.out
          have M5 := hM.out.grow st.stay st.grown (fun k hk e => hav.out k e hk)
          have hap5 := apart_grown (v' := .slice A5 (m + 1) c5) hav.out (fun k hk => (hM.out.2.2.lt k hk).2) st.at_
          go_wp2_with fail
          refine (MAbove_any (hid_mk q5).out w.heap.size v1 txs M5 _ n' c' row hR5 hA.out hn' h32.out htsl.out).mono ?_
          rintro e w6 ⟨A2, n2, c2, v2, rfl, hc2, hS2, hA2, hM2, hT2, hm2, hnew⟩
          have own6 := hown5.two M5.2.1 (by decide) hT2 hap5
          have q6 : Hid (Below w.heap.size w w6) := TwoM.below hT2 (hid_mk q5).out (hid_mk q5).out.size (Nat.le_refl _) M5.low
          have hn2 : n2 = (n' + 1) / 2 := by have := hS2.len; rw [hal.out] at this; omega
          have hn2a : jh < n2 ∧ n2 ≤ 4096 ∧ n2 < n' := by omega
          obtain ⟨hn2b, hn2c, hn2d⟩ := hn2a
          have hm6 : Hid ((m + 1) + n2 ≤ 8192) := by have := hmn.out; rw [Hid]; omega
          have htx6 : Hid ((txs ++ aboveTs row).length + n2 ≤ 4096) := by have h1 := htx.out; have h2 := htl.out; rw [Hid, List.length_append]; omega
          have hap6 : Hid (∀ b o, A2 = some ⟨b, o, none⟩ → (Value.slice A5 (m + 1) c5).ownBlock ≠ some b) := by
            intro b o hb3 he
            have h1 := hnew b o hb3
            have h2 := (hown5.lt b he).2
            omega
          have hav6 : Hid (∀ k, (Value.slice A5 (m + 1) c5).ownBlock = some k → v2.ownBlock ≠ some k) := apart_moved hap5 (fun k hk => (hown5.lt k hk).2) hm2
          replace hn2 := hid_mk hn2
          replace hjhe := hid_mk hjhe
          replace hM2 := hid_mk hM2
          replace hA2 := hid_mk hA2
          clear hT2 hm2
          go_wp2
          go_roundw
          case rel => exact ⟨jh, n2, c2, (m + 1), c5, A2, A5, _, (outs ++ [s]), txs ++ aboveTs row, v2, rfl, hn2b, rfl, hn2c, rfl, hc5, hm6, htx6, hap6, hav6, Reads.topS hS2, hA2, hM2, own6, hps, h32', q6⟩
          case measure => simp [lenW]; omega
        · have hsn : ¬ sib row.length j := by rw [hrl]; unfold sib; omega
          have hps : Hid (proofW dB ss i = outs ++ proofW dB (aboveL dB row) jh) := by
            rw [← hjhe, Hid, hpr.out, proofW_lone dB hl1 hsn]
          have k1 : ¬ ((j : Int) + 1 < n') := by omega
          have kw : IntKind.i64.wrap ((j : Int) + 1) = (j : Int) + 1 := IntWalk.i64_in _ (by omega)
          replace hsn := hid_mk hsn
          replace hev := hid_mk hev
          clear hl1 hrl
          go_wp2_with fail
          refine (MAbove_any hb.out w.heap.size v1 txs hM.out _ n' c' row hR.out hA.out hn' h32.out htsl.out).mono ?_
          rintro e w6 ⟨A2, n2, c2, v2, rfl, hc2, hS2, hA2, hM2, hT2, hm2, hnew⟩
          have own6 := hown.two hM.out.2.1 (by decide) hT2 hav.out
          have q6 : Hid (Below w.heap.size w w6) := TwoM.below hT2 hb.out hb.out.size (Nat.le_refl _) hM.out.low
          have hn2 : n2 = (n' + 1) / 2 := by have := hS2.len; rw [hal.out] at this; omega
          have hn2a : jh < n2 ∧ n2 ≤ 4096 ∧ n2 < n' := by omega
          obtain ⟨hn2b, hn2c, hn2d⟩ := hn2a
          have hm6 : Hid (m + n2 ≤ 8192) := by have := hmn.out; rw [Hid]; omega
          have htx6 : Hid ((txs ++ aboveTs row).length + n2 ≤ 4096) := by have h1 := htx.out; have h2 := htl.out; rw [Hid, List.length_append]; omega
          have hap6 : Hid (∀ b o, A2 = some ⟨b, o, none⟩ → (Value.slice Ao m co).ownBlock ≠ some b) := by
            intro b o hb3 he
            have h1 := hnew b o hb3
            have h2 := (hown.lt b he).2
            omega
          have hav6 : Hid (∀ k, (Value.slice Ao m co).ownBlock = some k → v2.ownBlock ≠ some k) := apart_moved hav.out (fun k hk => (hown.lt k hk).2) hm2
          replace hn2 := hid_mk hn2
          replace hjhe := hid_mk hjhe
          replace hM2 := hid_mk hM2
          replace hA2 := hid_mk hA2
          clear hT2 hm2
          go_wp2
          go_roundw
          case rel => exact ⟨jh, n2, c2, m, co, A2, Ao, _, outs, txs ++ aboveTs row, v2, rfl, hn2b, rfl, hn2c, rfl, hmo, hm6, htx6, hap6, hav6, Reads.topS hS2, hA2, hM2, own6, hps, h32', q6⟩
          case measure => simp [lenW]; omega
      · have hmod : (j : Int) % 2 = 1 := by omega
        have hmod' : ((j : Int) % 2 == 1) = true := by rw [hmod]; rfl
        have hsn : sib row.length j := Or.inl hodd
        have hbe : beside j = j - 1 := by unfold beside; rw [if_neg (by omega)]
        have hbs : j - 1 < n' := by omega
        replace hodd := hid_mk hodd
        have hps : Hid (proofW dB ss i = (outs ++ [row.getD (j - 1) ByteArray.empty]) ++ proofW dB (aboveL dB row) jh) := by
          rw [← hjhe, Hid, hpr.out, proofW_sib dB hl1 hsn, hbe, List.append_assoc]; rfl
        obtain ⟨q, hq⟩ : ∃ q, j - 1 = q := ⟨_, rfl⟩
        rw [hq] at hbs hps
        obtain ⟨b0, o0, s, rfl, hbl, _, hsk, hcell⟩ := hR.out.at_ hbs
        have hsv : row.getD q ByteArray.empty = s := by rw [List.getD_eq_getElem?_getD, hsk]; rfl
        rw [hsv] at hps
        have k0 : (0 : Int) ≤ q := by omega
        have k1 : (q : Int) < n' := by omega
        have k2 : (j : Int) - 1 = (q : Int) := by omega
        have kw : IntKind.i64.wrap ((j : Int) - 1) = (q : Int) := by rw [k2]; exact IntWalk.i64_in _ (by omega)
        replace hq := hid_mk hq
        replace k2 := hid_mk k2
        replace hsn := hid_mk hsn
        replace hbe := hid_mk hbe
        replace hsk := hid_mk hsk
        clear hsv hl1 hrl
        go_wp2_with (at_builtin; refine wpl_append_new rfl (.tmp 18) (.tmp 24) 22 rfl 9 j0 _ 16 Try.underlying22 hj0 hjz hj1 hj2 rfl hb.out (.slice Ao m co) m _ rfl hown ([s].map vstr) 1 1 rfl _ rfl (by simp [Act.eval]) (vstr_one _) (by omega) (by omega) ?_; intro A5 c5 w5 hown5 hc5 q5 st hs5; rw [← List.map_append] at hown5)
        have hR5 : Strs w5 w5.heap.size (some ⟨b0, o0, none⟩) n' row := Reads.grow hR.out st.grown hap.out
        have M5 := hM.out.grow st.stay st.grown (fun k hk e => hav.out k e hk)
        have hap5 := apart_grown (v' := .slice A5 (m + 1) c5) hav.out (fun k hk => (hM.out.2.2.lt k hk).2) st.at_
        go_wp2_with fail
        refine (MAbove_any (hid_mk q5).out w.heap.size v1 txs M5 _ n' c' row hR5 hA.out hn' h32.out htsl.out).mono ?_
        rintro e w6 ⟨A2, n2, c2, v2, rfl, hc2, hS2, hA2, hM2, hT2, hm2, hnew⟩
        have own6 := hown5.two M5.2.1 (by decide) hT2 hap5
        have q6 : Hid (Below w.heap.size w w6) := TwoM.below hT2 (hid_mk q5).out (hid_mk q5).out.size (Nat.le_refl _) M5.low
        have hn2 : n2 = (n' + 1) / 2 := by have := hS2.len; rw [hal.out] at this; omega
        have hn2a : jh < n2 ∧ n2 ≤ 4096 ∧ n2 < n' := by omega
        obtain ⟨hn2b, hn2c, hn2d⟩ := hn2a
        have hm6 : Hid ((m + 1) + n2 ≤ 8192) := by have := hmn.out; rw [Hid]; omega
        have htx6 : Hid ((txs ++ aboveTs row).length + n2 ≤ 4096) := by have h1 := htx.out; have h2 := htl.out; rw [Hid, List.length_append]; omega
        have hap6 : Hid (∀ b o, A2 = some ⟨b, o, none⟩ → (Value.slice A5 (m + 1) c5).ownBlock ≠ some b) := by
          intro b o hb3 he
          have h1 := hnew b o hb3
          have h2 := (hown5.lt b he).2
          omega
        have hav6 : Hid (∀ k, (Value.slice A5 (m + 1) c5).ownBlock = some k → v2.ownBlock ≠ some k) := apart_moved hap5 (fun k hk => (hown5.lt k hk).2) hm2
        replace hn2 := hid_mk hn2
        replace hjhe := hid_mk hjhe
        replace hM2 := hid_mk hM2
        replace hA2 := hid_mk hA2
        clear hT2 hm2
        go_wp2
        go_roundw
        case rel => exact ⟨jh, n2, c2, (m + 1), c5, A2, A5, _, (outs ++ [s]), txs ++ aboveTs row, v2, rfl, hn2b, rfl, hn2c, rfl, hc5, hm6, htx6, hap6, hav6, Reads.topS hS2, hA2, hM2, own6, hps, h32', q6⟩
        case measure => simp [lenW]; omega
    · have hps : proofW dB ss i = outs := by
        rw [hpr.out, proofW_done dB (by rw [hR.out.len]; exact hlt), List.append_nil]
      go_wp2
      refine ends_ret hQ (results_tmp rfl _ _ _) rfl ?_
      exact ⟨Ao, m, co, rfl, hmo, by rw [hps]; exact hown.reads, hb.out⟩
theorem Prove_any (A : Option Addr) (n cap : Nat) (ss : List ByteArray) (i : Int) (w : World) {B : Nat} (h : Strs w B A n ss) (hc : n ≤ cap) (hn : n ≤ 8796093022208) :
    Calls Try.prog 13 #[.slice A n cap, .int .i64 i] w fun e w' => if rightS ss = 0 ∧ 0 ≤ i ∧ i < n then RetProof w (proofW dB ss i.toNat) e w' else e = .returned (.tuple #[.slice none 0 0, .int .i64 (if rightS ss = 0 then 1 else rightS ss)]) ∧ w = w' := by
  by_cases hr : rightS ss = 0
  · by_cases hi : 0 ≤ i ∧ i < n
    · obtain ⟨k, rfl⟩ := Int.eq_ofNat_of_zero_le hi.1
      refine (Prove_some A n cap ss k w h hc hr (by omega)).mono ?_
      intro e w' he
      rw [if_pos ⟨hr, hi⟩]
      exact he
    · refine (Prove_out A n cap ss i w h hn hr (by omega)).mono ?_
      intro e w' he
      rw [if_neg (fun e => hi e.2), if_pos hr]
      exact he
  · refine (Prove_bad A n cap ss i w h hn hr).mono ?_
    intro e w' he
    rw [if_neg (fun e => hr e.1), if_neg hr]
    exact he
end Go.Proofs.Ytlnncpilgpafdaa
