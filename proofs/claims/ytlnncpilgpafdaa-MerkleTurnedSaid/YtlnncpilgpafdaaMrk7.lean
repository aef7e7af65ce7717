/-
  WHAT IS PROVED HERE: what the reference's Made.Root hands back. Condition: at most 4096 leaves, each a digest.
-/
import Derived.Test.YtlnncpilgpafdaaMrk6
namespace Go.Proofs.Ytlnncpilgpafdaa
open Go.RowKit

theorem aboveTs_half : ∀ l : List ByteArray, (aboveTs l).length = l.length / 2
  | [] => by simp [aboveTs]
  | [_] => by simp [aboveTs]
  | _ :: _ :: r => by
    have ih := aboveTs_half r
    simp only [aboveTs, List.length_cons]; omega
/-- the texts that a root is made of -/
def madeTs (ss : List ByteArray) : List ByteArray := rootTs dB (if ss = [] then [zero32] else ss) ++ [crownT ss.length (topS ss)]
theorem MCrown_0 {W w : World} (hb : Below W.heap.size W w) (g : Nat) (v : Value) (ts : List ByteArray) (top : ByteArray) (h : MadeIs w W.heap.size g v ts) (ht : top.size ≤ 137438953472) (hts : ts.length ≤ 1000000) :
    Calls Try.prog 24 #[.pointer (some ⟨g, 0, none⟩), .int .i64 0, .string top] w (RetMOf W.heap.size g v (ts ++ [crownT 0 top]) (dB (crownT 0 top)) w) := MCrown_any hb g v ts 0 top h (by omega) ht hts
set_option maxHeartbeats 3200000 in
theorem MRoot_none {W w : World} (hb : Below W.heap.size W w) (g : Nat) (v : Value) (ts : List ByteArray) (hM : MadeIs w W.heap.size g v ts) (A : Option Addr) (n cap : Nat) (ss : List ByteArray) {B : Nat} (h : Strs w B A n ss) (hn : n ≤ 4096) (hc : n ≤ cap) (h32 : ∀ s ∈ ss, s.size = 32) (hts : ts.length ≤ 400000) (h0 : n = 0) :
    Calls Try.prog 19 #[.pointer (some ⟨g, 0, none⟩), .slice A n cap] w (RetMOf W.heap.size g v (ts ++ madeTs ss) (rootB ss) w) := by
  subst h0
  have hss : ss = [] := List.eq_nil_of_length_eq_zero h.len
  subst hss
  have hrow := reads_new w (Lib.byteCells (List.replicate 32 0)).toArray 5 32 1 w.heap.size rfl
  have hcv := conv_row (c := 32) hrow
  rw [zrow] at hcv
  have hzz : (⟨(List.replicate 32 0).toArray⟩ : ByteArray) = zero32 := rfl
  rw [hzz] at hcv
  have hmk := make32 w
  have hq : ∀ w2 : World, Below w.heap.size w w2 → Below W.heap.size W w2 := fun w2 hw => hb.trans (hw.mono hb.size)
  have hS0 : Hid (Strs ((w.alloc (.cells #[.int .u8 0, .int .u8 0, .int .u8 0, .int .u8 0, .int .u8 0, .int .u8 0, .int .u8 0, .int .u8 0, .int .u8 0, .int .u8 0, .int .u8 0, .int .u8 0, .int .u8 0, .int .u8 0, .int .u8 0, .int .u8 0, .int .u8 0, .int .u8 0, .int .u8 0, .int .u8 0, .int .u8 0, .int .u8 0, .int .u8 0, .int .u8 0, .int .u8 0, .int .u8 0, .int .u8 0, .int .u8 0, .int .u8 0, .int .u8 0, .int .u8 0, .int .u8 0] 5)).alloc (.cells #[.string zero32] 9)) ((w.alloc (.cells #[.int .u8 0, .int .u8 0, .int .u8 0, .int .u8 0, .int .u8 0, .int .u8 0, .int .u8 0, .int .u8 0, .int .u8 0, .int .u8 0, .int .u8 0, .int .u8 0, .int .u8 0, .int .u8 0, .int .u8 0, .int .u8 0, .int .u8 0, .int .u8 0, .int .u8 0, .int .u8 0, .int .u8 0, .int .u8 0, .int .u8 0, .int .u8 0, .int .u8 0, .int .u8 0, .int .u8 0, .int .u8 0, .int .u8 0, .int .u8 0, .int .u8 0, .int .u8 0] 5)).alloc (.cells #[.string zero32] 9)).heap.size (some ⟨w.heap.size + 1, 0, none⟩) 1 [zero32]) := by
    have h1 := reads_new (w.alloc (.cells #[.int .u8 0, .int .u8 0, .int .u8 0, .int .u8 0, .int .u8 0, .int .u8 0, .int .u8 0, .int .u8 0, .int .u8 0, .int .u8 0, .int .u8 0, .int .u8 0, .int .u8 0, .int .u8 0, .int .u8 0, .int .u8 0, .int .u8 0, .int .u8 0, .int .u8 0, .int .u8 0, .int .u8 0, .int .u8 0, .int .u8 0, .int .u8 0, .int .u8 0, .int .u8 0, .int .u8 0, .int .u8 0, .int .u8 0, .int .u8 0, .int .u8 0, .int .u8 0] 5)) #[.string zero32] 9 1 1 0 rfl
    rw [World.size_alloc] at h1
    exact Reads.topS h1
  have hb1 : Below w.heap.size w ((w.alloc (.cells #[.int .u8 0, .int .u8 0, .int .u8 0, .int .u8 0, .int .u8 0, .int .u8 0, .int .u8 0, .int .u8 0, .int .u8 0, .int .u8 0, .int .u8 0, .int .u8 0, .int .u8 0, .int .u8 0, .int .u8 0, .int .u8 0, .int .u8 0, .int .u8 0, .int .u8 0, .int .u8 0, .int .u8 0, .int .u8 0, .int .u8 0, .int .u8 0, .int .u8 0, .int .u8 0, .int .u8 0, .int .u8 0, .int .u8 0, .int .u8 0, .int .u8 0, .int .u8 0] 5)).alloc (.cells #[.string zero32] 9)) := by go_grown
  have hbW := hid_mk (hq _ hb1)
  have hM0 := hid_mk (hM.keep hb1)
  have hT0 : Hid (TwoM w ((w.alloc (.cells #[.int .u8 0, .int .u8 0, .int .u8 0, .int .u8 0, .int .u8 0, .int .u8 0, .int .u8 0, .int .u8 0, .int .u8 0, .int .u8 0, .int .u8 0, .int .u8 0, .int .u8 0, .int .u8 0, .int .u8 0, .int .u8 0, .int .u8 0, .int .u8 0, .int .u8 0, .int .u8 0, .int .u8 0, .int .u8 0, .int .u8 0, .int .u8 0, .int .u8 0, .int .u8 0, .int .u8 0, .int .u8 0, .int .u8 0, .int .u8 0, .int .u8 0, .int .u8 0] 5)).alloc (.cells #[.string zero32] 9)) g v.ownBlock) := TwoM.of_below hb1
  have hA0 : Hid (Away (some ⟨w.heap.size + 1, 0, none⟩) g v.ownBlock) := by
    intro b o e
    injection e with e
    injection e with e
    have h1 := hM.lt
    refine ⟨by omega, fun e2 => ?_⟩
    have h2 := (hM.2.2.lt b e2).2
    omega
  have hro : Hid (∀ t, topW dB [zero32] = [t] → dB (crownT 0 t) = rootB [] ∧ crownT 0 t = crownT 0 (topS [])) := by
    intro t ht
    unfold rootB topS
    rw [if_pos rfl, ht]
    exact ⟨rfl, rfl⟩
  have hmt : Hid (madeTs [] = rootTs dB [zero32] ++ [crownT 0 (topS [])]) := rfl
  have h320 : Hid (∀ s ∈ [zero32], s.size = 32) := by intro s hs; simp at hs; subst hs; exact zero32_32
  have hgB := hM.1
  obtain ⟨ls, hls⟩ : ∃ ls, [zero32] = ls := ⟨_, rfl⟩
  have hl1 : ls.length = 1 := by rw [← hls]; rfl
  rw [hls] at hS0 hro hmt h320
  have hz32 : zero32.size ≤ 32 := Nat.le_of_eq zero32_32
  replace hl1 := hid_mk hl1
  replace hls := hid_mk hls
  clear hrow hzz h h32 hq hb1 hb hM
  refine calls_of_wpQ Try.func19 rfl ?_
  intro Q hQ
  simp only [Try.ntmps19, List.size_toArray, List.length_cons, List.length_nil, Nat.reduceAdd, Nat.reduceSub, Array.replicate_succ, Array.replicate_zero, List.push_toArray, List.append_toArray, List.nil_append, List.cons_append]
  go_wp2
  go_loopw [5] (fun s wr => ∃ (n' c' : Nat) (A' : Option Addr) (row txs : List ByteArray) (v1 : Value), s = .slice A' n' c' ∧ n' ≤ c' ∧ 0 < n' ∧ n' ≤ 4096 ∧ txs.length + n' ≤ 4096 ∧ Hid (Strs wr wr.heap.size A' n' row) ∧ Hid (Away A' g v1.ownBlock) ∧ Hid (topW dB ls = topW dB row) ∧ Hid (rootTs dB ls = txs ++ rootTs dB row) ∧ Hid (∀ s ∈ row, s.size = 32) ∧ Hid (MadeIs wr W.heap.size g v1 (ts ++ txs)) ∧ Hid (TwoM w wr g v.ownBlock) ∧ Hid (Moved w v.ownBlock v1.ownBlock) ∧ Hid (Below W.heap.size W wr)) (fun s _ => lenW s)
  case atStart => exact ⟨1, _, _, ls, [], v, rfl, Nat.le_refl _, by omega, by omega, by simp; try omega, hS0, hA0, rfl, rfl, h320, (by rw [List.append_nil]; exact hM0), hT0, Moved.refl _ _, hbW⟩
  case round =>
    clear hS0 hA0 h320 hM0 hT0 hbW
    obtain ⟨n', c', A', row, txs, v1, rfl, hc', hn0', hn', htx, hS, hA, htop, hrt, h32, hM, hT, hmv, hb⟩ := hrel
    have hrl := hS.out.len
    by_cases hlt : 1 < n'
    · have hl2 : 1 < row.length := by omega
      have htop2 : Hid (topW dB ls = topW dB (aboveL dB row)) := by rw [Hid, htop.out, topW_step dB hl2]
      have hrt2 : Hid (rootTs dB ls = (txs ++ aboveTs row) ++ rootTs dB (aboveL dB row)) := by rw [Hid, hrt.out, rootTs_step dB hl2, List.append_assoc]
      have hal : (aboveL dB row).length = (n' + 1) / 2 := by rw [aboveL_len, hrl]
      have htl : (aboveTs row).length = n' / 2 := by rw [aboveTs_half, hrl]
      have h322 : Hid (∀ s ∈ aboveL dB row, s.size = 32) := aboveL_32 dB dB_32 row h32.out
      have htsl : (ts ++ txs).length ≤ 500000 := by rw [List.length_append]; omega
      replace hal := hid_mk hal
      replace htl := hid_mk htl
      replace hrl := hid_mk hrl
      clear hl2
      go_wp2_with fail
      refine (MAbove_any hb.out g v1 (ts ++ txs) hM.out A' n' c' row hS.out hA.out hn' h32.out htsl).mono ?_
      rintro e w2 ⟨A2, n2, c2, v2, rfl, hc2, hS2, hA2, hM2, hT2, hm2, _⟩
      have hn2 : n2 = (n' + 1) / 2 := by have := hS2.len; rw [hal.out] at this; omega
      have hn2a : 0 < n2 ∧ n2 ≤ 4096 ∧ n2 < n' ∧ (txs ++ aboveTs row).length + n2 ≤ 4096 := by rw [List.length_append, htl.out]; omega
      obtain ⟨hn2b, hn2c, hn2d, hn2e⟩ := hn2a
      have hTc : Hid (TwoM w w2 g v.ownBlock) := hT.out.trans hmv.out hT2
      have hmv2 : Hid (Moved w v.ownBlock v2.ownBlock) := hmv.out.trans hT.out.size hm2
      have q2 : Hid (Below W.heap.size W w2) := TwoM.below hT2 hb.out hb.out.size hgB hM.out.low
      rw [List.append_assoc] at hM2
      replace hn2 := hid_mk hn2
      replace hM2 := hid_mk hM2
      replace hA2 := hid_mk hA2
      clear hT2 hm2
      go_wp2
      go_roundw
      case rel => exact ⟨n2, c2, A2, _, _, v2, rfl, hc2, hn2b, hn2c, hn2e, hS2, hA2, htop2, hrt2, h322, hM2, hTc, hmv2, q2⟩
      case measure => simp [lenW]; omega
    · obtain rfl : n' = 1 := by omega
      obtain ⟨t, rfl⟩ : ∃ t, row = [t] := by
        match row, hrl with
        | [t], _ => exact ⟨t, rfl⟩
      obtain ⟨b0, o0, rfl, hbl, _, hcell⟩ := hS.out.2 (by omega)
      have c0 : wr.cell? ⟨b0, o0, none⟩ = some (.string t) := hcell 0 _ rfl
      have ht32 : t.size ≤ 137438953472 := by rw [h32.out t (by simp)]; omega
      have hrr := hro.out t (by rw [htop.out, topW_done dB (by simp)])
      have hr1 := hid_mk hrr.1
      have hr2 := hid_mk hrr.2
      have hrt2 : Hid (rootTs dB ls = txs) := by rw [Hid, hrt.out, rootTs_done dB (by simp), List.append_nil]
      have htsl : (ts ++ txs).length ≤ 1000000 := by rw [List.length_append]; omega
      clear hcell hlt hrr
      go_wp2_with fail
      refine (MCrown_0 hb.out g v1 (ts ++ txs) t hM.out  ht32 htsl).mono ?_
      rintro e w2 ⟨v2, rfl, hM2, hT2, hm2⟩
      have hTc : TwoM w w2 g v.ownBlock := hT.out.trans hmv.out hT2
      have hmv2 : Moved w v.ownBlock v2.ownBlock := hmv.out.trans hT.out.size hm2
      rw [hr1.out]
      rw [List.append_assoc, hr2.out, ← hrt2.out, ← hmt.out] at hM2
      replace hM2 := hid_mk hM2
      go_wp2
      refine ends_ret hQ (results_tmp rfl _ _ _) rfl ?_
      exact ⟨v2, rfl, hM2.out, hTc, hmv2⟩
set_option maxHeartbeats 3200000 in
theorem MRoot_some {W w : World} (hb : Below W.heap.size W w) (g : Nat) (v : Value) (ts : List ByteArray) (hM : MadeIs w W.heap.size g v ts) (A : Option Addr) (n cap : Nat) (ss : List ByteArray) {B : Nat} (h : Strs w B A n ss) (haw : Away A g v.ownBlock) (hn : n ≤ 4096) (hc : n ≤ cap) (h32 : ∀ s ∈ ss, s.size = 32) (hts : ts.length ≤ 400000) (h0 : 0 < n) :
    Calls Try.prog 19 #[.pointer (some ⟨g, 0, none⟩), .slice A n cap] w (RetMOf W.heap.size g v (ts ++ madeTs ss) (rootB ss) w) := by
  have hlen := h.len
  have hro : Hid (∀ t, topW dB ss = [t] → dB (crownT n t) = rootB ss ∧ crownT n t = crownT ss.length (topS ss)) := by
    intro t ht
    unfold rootB topS
    rw [if_neg (by intro e; rw [e] at hlen; simp at hlen; omega), ht, hlen]
    exact ⟨rfl, rfl⟩
  have hmt : Hid (madeTs ss = rootTs dB ss ++ [crownT ss.length (topS ss)]) := by
    unfold Hid madeTs
    rw [if_neg (by intro e; rw [e] at hlen; simp at hlen; omega)]
  have hS0 : Hid (Strs w w.heap.size A n ss) := Reads.topS h
  have hM0 := hid_mk hM
  have hA0 := hid_mk haw
  have h320 : Hid (∀ s ∈ ss, s.size = 32) := h32
  have hbW := hid_mk hb
  have hT0 : Hid (TwoM w w g v.ownBlock) := TwoM.refl _ _ _
  have hgB := hM.1
  have hnz : ((n : Int) == 0) = false := by simp; omega
  obtain ⟨ls, hls⟩ : ∃ ls, ss = ls := ⟨_, rfl⟩
  have hl1 : ls.length = n := by rw [← hls]; exact hlen
  rw [hls] at hS0 h320
  have hro2 : Hid (∀ t, topW dB ls = [t] → dB (crownT n t) = rootB ss ∧ crownT n t = crownT ss.length (topS ss)) := by rw [← hls]; exact hro
  have hmt2 : Hid (madeTs ss = rootTs dB ls ++ [crownT ss.length (topS ss)]) := by rw [hmt.out, hls]; rfl
  clear hro hmt
  rename Hid (∀ t, topW dB ls = [t] → dB (crownT n t) = rootB ss ∧ crownT n t = crownT ss.length (topS ss)) => hro
  rename Hid (madeTs ss = rootTs dB ls ++ [crownT ss.length (topS ss)]) => hmt
  replace hl1 := hid_mk hl1
  replace hls := hid_mk hls
  clear h h32 hb hM hlen haw
  refine calls_of_wpQ Try.func19 rfl ?_
  intro Q hQ
  simp only [Try.ntmps19, List.size_toArray, List.length_cons, List.length_nil, Nat.reduceAdd, Nat.reduceSub, Array.replicate_succ, Array.replicate_zero, List.push_toArray, List.append_toArray, List.nil_append, List.cons_append]
  go_wp2
  go_loopw [5] (fun s wr => ∃ (n' c' : Nat) (A' : Option Addr) (row txs : List ByteArray) (v1 : Value), s = .slice A' n' c' ∧ n' ≤ c' ∧ 0 < n' ∧ n' ≤ 4096 ∧ txs.length + n' ≤ 4096 ∧ Hid (Strs wr wr.heap.size A' n' row) ∧ Hid (Away A' g v1.ownBlock) ∧ Hid (topW dB ls = topW dB row) ∧ Hid (rootTs dB ls = txs ++ rootTs dB row) ∧ Hid (∀ s ∈ row, s.size = 32) ∧ Hid (MadeIs wr W.heap.size g v1 (ts ++ txs)) ∧ Hid (TwoM w wr g v.ownBlock) ∧ Hid (Moved w v.ownBlock v1.ownBlock) ∧ Hid (Below W.heap.size W wr)) (fun s _ => lenW s)
  case atStart => exact ⟨n, _, _, ls, [], v, rfl, hc, by omega, by omega, by simp; try omega, hS0, hA0, rfl, rfl, h320, (by rw [List.append_nil]; exact hM0), hT0, Moved.refl _ _, hbW⟩
  case round =>
    clear hS0 hA0 h320 hM0 hT0 hbW
    obtain ⟨n', c', A', row, txs, v1, rfl, hc', hn0', hn', htx, hS, hA, htop, hrt, h32, hM, hT, hmv, hb⟩ := hrel
    have hrl := hS.out.len
    by_cases hlt : 1 < n'
    · have hl2 : 1 < row.length := by omega
      have htop2 : Hid (topW dB ls = topW dB (aboveL dB row)) := by rw [Hid, htop.out, topW_step dB hl2]
      have hrt2 : Hid (rootTs dB ls = (txs ++ aboveTs row) ++ rootTs dB (aboveL dB row)) := by rw [Hid, hrt.out, rootTs_step dB hl2, List.append_assoc]
      have hal : (aboveL dB row).length = (n' + 1) / 2 := by rw [aboveL_len, hrl]
      have htl : (aboveTs row).length = n' / 2 := by rw [aboveTs_half, hrl]
      have h322 : Hid (∀ s ∈ aboveL dB row, s.size = 32) := aboveL_32 dB dB_32 row h32.out
      have htsl : (ts ++ txs).length ≤ 500000 := by rw [List.length_append]; omega
      replace hal := hid_mk hal
      replace htl := hid_mk htl
      replace hrl := hid_mk hrl
      clear hl2
      go_wp2_with fail
      refine (MAbove_any hb.out g v1 (ts ++ txs) hM.out A' n' c' row hS.out hA.out hn' h32.out htsl).mono ?_
      rintro e w2 ⟨A2, n2, c2, v2, rfl, hc2, hS2, hA2, hM2, hT2, hm2, _⟩
      have hn2 : n2 = (n' + 1) / 2 := by have := hS2.len; rw [hal.out] at this; omega
      have hn2a : 0 < n2 ∧ n2 ≤ 4096 ∧ n2 < n' ∧ (txs ++ aboveTs row).length + n2 ≤ 4096 := by rw [List.length_append, htl.out]; omega
      obtain ⟨hn2b, hn2c, hn2d, hn2e⟩ := hn2a
      have hTc : Hid (TwoM w w2 g v.ownBlock) := hT.out.trans hmv.out hT2
      have hmv2 : Hid (Moved w v.ownBlock v2.ownBlock) := hmv.out.trans hT.out.size hm2
      have q2 : Hid (Below W.heap.size W w2) := TwoM.below hT2 hb.out hb.out.size hgB hM.out.low
      rw [List.append_assoc] at hM2
      replace hn2 := hid_mk hn2
      replace hM2 := hid_mk hM2
      replace hA2 := hid_mk hA2
      clear hT2 hm2
      go_wp2
      go_roundw
      case rel => exact ⟨n2, c2, A2, _, _, v2, rfl, hc2, hn2b, hn2c, hn2e, hS2, hA2, htop2, hrt2, h322, hM2, hTc, hmv2, q2⟩
      case measure => simp [lenW]; omega
    · obtain rfl : n' = 1 := by omega
      obtain ⟨t, rfl⟩ : ∃ t, row = [t] := by
        match row, hrl with
        | [t], _ => exact ⟨t, rfl⟩
      obtain ⟨b0, o0, rfl, hbl, _, hcell⟩ := hS.out.2 (by omega)
      have c0 : wr.cell? ⟨b0, o0, none⟩ = some (.string t) := hcell 0 _ rfl
      have ht32 : t.size ≤ 137438953472 := by rw [h32.out t (by simp)]; omega
      have hrr := hro.out t (by rw [htop.out, topW_done dB (by simp)])
      have hr1 := hid_mk hrr.1
      have hr2 := hid_mk hrr.2
      have hrt2 : Hid (rootTs dB ls = txs) := by rw [Hid, hrt.out, rootTs_done dB (by simp), List.append_nil]
      have htsl : (ts ++ txs).length ≤ 1000000 := by rw [List.length_append]; omega
      clear hcell hlt hrr
      go_wp2_with fail
      refine (MCrown_any hb.out g v1 (ts ++ txs) n t hM.out (by omega) ht32 htsl).mono ?_
      rintro e w2 ⟨v2, rfl, hM2, hT2, hm2⟩
      have hTc : TwoM w w2 g v.ownBlock := hT.out.trans hmv.out hT2
      have hmv2 : Moved w v.ownBlock v2.ownBlock := hmv.out.trans hT.out.size hm2
      rw [hr1.out]
      rw [List.append_assoc, hr2.out, ← hrt2.out, ← hmt.out] at hM2
      replace hM2 := hid_mk hM2
      go_wp2
      refine ends_ret hQ (results_tmp rfl _ _ _) rfl ?_
      exact ⟨v2, rfl, hM2.out, hTc, hmv2⟩
theorem MRoot_any {W w : World} (hb : Below W.heap.size W w) (g : Nat) (v : Value) (ts : List ByteArray) (hM : MadeIs w W.heap.size g v ts) (A : Option Addr) (n cap : Nat) (ss : List ByteArray) {B : Nat} (h : Strs w B A n ss) (haw : 0 < n → Away A g v.ownBlock) (hn : n ≤ 4096) (hc : n ≤ cap) (h32 : ∀ s ∈ ss, s.size = 32) (hts : ts.length ≤ 400000) :
    Calls Try.prog 19 #[.pointer (some ⟨g, 0, none⟩), .slice A n cap] w (RetMOf W.heap.size g v (ts ++ madeTs ss) (rootB ss) w) := by
  rcases Nat.eq_zero_or_pos n with h0 | h0
  · exact MRoot_none hb g v ts hM A n cap ss h hn hc h32 hts h0
  · exact MRoot_some hb g v ts hM A n cap ss h (haw h0) hn hc h32 hts h0
end Go.Proofs.Ytlnncpilgpafdaa
