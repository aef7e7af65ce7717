/-
  WHAT IS PROVED HERE: what the law's digests hands back, and the walk of the law MerkleShows. No condition.
-/
import Derived.Test.YtlnncpilgpafdaaMrk3
import Derived.Test.YtlnncpilgpafdaaMrk4
import Derived.Test.YtlnncpilgpafdaaRef4
namespace Go.Proofs.Ytlnncpilgpafdaa
open Go.RowKit

/-- the leaves that a law makes of texts -/
def leafD (s : ByteArray) : ByteArray := if s.size = 32 then s else dB s
def leavesD (ss : List ByteArray) : List ByteArray := (ss.take 40).map leafD
theorem leafD_32 (s : ByteArray) : (leafD s).size = 32 := by
  unfold leafD
  split
  · assumption
  · exact dB_32 s
theorem leavesD_32 (ss : List ByteArray) : ∀ s ∈ leavesD ss, s.size = 32 := by
  intro s hs
  unfold leavesD at hs
  obtain ⟨t, _, rfl⟩ := List.mem_map.1 hs
  exact leafD_32 t
theorem leavesD_len (ss : List ByteArray) : (leavesD ss).length ≤ 40 := by unfold leavesD; rw [List.length_map, List.length_take]; omega
theorem leavesD_right (ss : List ByteArray) : rightS (leavesD ss) = 0 := by
  unfold rightS
  rw [if_neg (by have := leavesD_len ss; omega), if_neg]
  have : (leavesD ss).any bad32 = false := by
    rw [List.any_eq_false]
    intro s hs
    unfold bad32
    simp [leavesD_32 ss s hs]
  rw [this]; simp
set_option maxHeartbeats 1600000 in
theorem digests_any (A : Option Addr) (n cap : Nat) (ss : List ByteArray) (w : World) {B : Nat} (h : Strs w B A n ss) (hsz : ∀ s ∈ ss, s.size ≤ 140737488351232) :
    Calls Try.prog 20 #[.slice A n cap] w (RetStrs w (leavesD ss)) := by
  obtain ⟨j0, hj0, hjz, hj1, hj2⟩ := info_parts16 strJ
  have hR0 : Hid (Strs w w.heap.size A n ss) := Reads.topS h
  replace hsz := hid_mk hsz
  have ho0 : OwnM w w.heap.size 9 (.slice none 0 0) 0 (((ss.take 0).map leafD).map vstr) := OwnM.nil
  clear h
  refine calls_of_wpQ Try.func20 rfl ?_
  intro Q hQ
  simp only [Try.ntmps20, List.size_toArray, List.length_cons, List.length_nil, Nat.reduceAdd, Nat.reduceSub, Array.replicate_succ, Array.replicate_zero, List.push_toArray, List.append_toArray, List.nil_append, List.cons_append]
  go_wp2
  go_loopw [3, 8] (fun o iv wr => ∃ (k co : Nat) (Ao : Option Addr), iv = .int .i64 k ∧ k ≤ n ∧ k ≤ 40 ∧ o = .slice Ao k co ∧ k ≤ co ∧ OwnM wr w.heap.size 9 (.slice Ao k co) k (((ss.take k).map leafD).map vstr) ∧ Hid (Below w.heap.size w wr)) (fun _ iv _ => n - (intOf iv).toNat)
  case atStart => exact ⟨0, 0, none, rfl, Nat.zero_le _, by omega, rfl, Nat.le_refl _, ho0, hid_mk (Below.refl _ _)⟩
  case round =>
    clear ho0
    obtain ⟨k, co, Ao, rfl, hkn, hk40, rfl, hco, hown, hb⟩ := hrel
    by_cases hlt : k < n
    · obtain ⟨b0, o0, s, rfl, hbl, _, hsk, hcell⟩ := hR0.out.at_ hlt
      have c0 : wr.cell? ⟨b0, o0 + k, none⟩ = some (.string s) := ((bcell hb.out).1 _ _ hbl).trans hcell
      have hblr : b0 < wr.heap.size := Nat.lt_of_lt_of_le hbl hb.out.size
      by_cases h40 : k < 40
      · have hss : s.size ≤ 140737488351232 := hsz.out s (List.mem_of_getElem? hsk)
        obtain ⟨y, hy⟩ : ∃ y, leafD s = y := ⟨_, rfl⟩
        have htk : Hid (((ss.take (k + 1)).map leafD).map vstr = ((ss.take k).map leafD).map vstr ++ [y].map vstr) := by
          have hl : k < ss.length := by have := hR0.out.len; omega
          rw [Hid, List.take_succ_eq_append_getElem hl, List.map_append, List.map_append, ← hy]
          rw [List.getElem?_eq_getElem hl] at hsk
          injection hsk with hsk
          rw [hsk]; rfl
        replace hsk := hid_mk hsk
        clear hcell
        by_cases h32 : s.size = 32
        · have hys : y = s := by rw [← hy]; unfold leafD; rw [if_pos h32]
          subst hys
          have hd : ((y.size : Int) != 32) = false := by simp; omega
          replace h32 := hid_mk h32
          replace hy := hid_mk hy
          go_wp2_with (at_builtin; refine wpl_append_new rfl (.tmp 20) (.tmp 22) 22 rfl 9 j0 _ 16 Try.underlying22 hj0 hjz hj1 hj2 rfl hb.out (.slice Ao k co) k _ rfl hown ([y].map vstr) 1 1 rfl _ rfl (by simp [Act.eval]) (vstr_one _) (by omega) (by omega) ?_; intro A5 c5 w5 hown5 hc5 q5 st hs5; rw [← htk.out] at hown5)
          go_roundw
          case rel => exact ⟨k + 1, c5, A5, by go_num, by omega, by omega, rfl, hc5, hown5, hid_mk q5⟩
          case measure => simp [intOf]; omega
        · have hys : Hid (dB s = y) := by rw [Hid, ← hy]; unfold leafD; rw [if_neg h32]
          have hd : ((s.size : Int) != 32) = true := by simp; omega
          replace h32 := hid_mk h32
          replace hy := hid_mk hy
          go_wp2_with (first | (go_at_call 33; refine (ROf_any s _ hss).mono ?_; rw [show (⟨(digL s.data.toList).toArray⟩ : ByteArray) = y from hys.out]; rintro e w2 ⟨rfl, hb2⟩; have q2 := hid_mk (after (w := w) hb2 hb.out).1; have own2 := hown.below hb2; clear hb2) | (at_builtin; refine wpl_append_new rfl (.tmp 20) (.tmp 22) 22 rfl 9 j0 _ 16 Try.underlying22 hj0 hjz hj1 hj2 rfl q2.out (.slice Ao k co) k _ rfl own2 ([y].map vstr) 1 1 rfl _ rfl (by simp [Act.eval]) (vstr_one _) (by omega) (by omega) ?_; intro A5 c5 w5 hown5 hc5 q5 st hs5; rw [← htk.out] at hown5))
          go_roundw
          case rel => exact ⟨k + 1, c5, A5, by go_num, by omega, by omega, rfl, hc5, hown5, hid_mk q5⟩
          case measure => simp [intOf]; omega
      · obtain rfl : k = 40 := by omega
        replace hsk := hid_mk hsk
        have hk2 : (40 : Int) ≤ ((40 : Nat) : Int) := by omega
        go_wp2
        refine ends_ret hQ (results_tmp rfl _ _ _) rfl ?_
        exact ⟨Ao, 40, co, rfl, hco, hown.reads, hb.out, fun b o hbo => (hown.lt b (by rw [hbo]; rfl)).1⟩
    · obtain rfl : k = n := by omega
      have hlv : (ss.take k).map leafD = leavesD ss := by
        have hl := hR0.out.len
        unfold leavesD
        rw [List.take_of_length_le (by omega), List.take_of_length_le (by omega)]
      rw [hlv] at hown
      go_wp2
      refine ends_ret hQ (results_tmp rfl _ _ _) rfl ?_
      exact ⟨Ao, k, co, rfl, hco, hown.reads, hb.out, fun b o hbo => (hown.lt b (by rw [hbo]; rfl)).1⟩
theorem proofW_len (D : ByteArray → ByteArray) : ∀ (k : Nat) (l : List ByteArray) (i : Nat), l.length ≤ k → (proofW D l i).length ≤ l.length
  | 0, l, i, hk => by rw [proofW_done D (by omega)]; simp
  | k + 1, l, i, hk => by
    by_cases h : 1 < l.length
    · have hl := aboveL_len D l
      have ih := proofW_len D k (aboveL D l) (i / 2) (by omega)
      by_cases hs : sib l.length i
      · rw [proofW_sib D h hs, List.length_cons]; omega
      · rw [proofW_lone D h hs]; omega
    · rw [proofW_done D h]; simp
theorem any_bad {l : List ByteArray} (h : ∀ s ∈ l, s.size = 32) : l.any bad32 = false := by
  rw [List.any_eq_false]
  intro s hs
  unfold bad32
  simp [h s hs]
/-- each proof of leaves is shown -/
theorem check_shows {ls : List ByteArray} (h32 : ∀ s ∈ ls, s.size = 32) (hlen : ls.length ≤ 4096) {i : Nat} {l : ByteArray} (hl : ls[i]? = some l) : checkB (rootB ls) ls.length i l (proofW dB ls i) = true := by
  have hi : i < ls.length := by
    rcases Nat.lt_or_ge i ls.length with h | h
    · exact h
    · rw [List.getElem?_eq_none h] at hl; cases hl
  obtain ⟨t, ht, htop⟩ := climb_shows dB ls.length ls i l (Nat.le_refl _) hi hl
  unfold checkB
  rw [if_pos ⟨by omega, by omega, by omega, by omega, h32 l (List.mem_of_getElem? hl), any_bad (proofW_32 dB dB_32 ls.length ls i (Nat.le_refl _) hi h32)⟩]
  unfold shownB rootB topS
  rw [Int.toNat_natCast, Int.toNat_natCast, ht, if_neg (by intro e; rw [e] at hi; simp at hi), htop]
  simp
set_option maxHeartbeats 1600000 in
theorem LawShows_any (A : Option Addr) (n cap : Nat) (ss : List ByteArray) (w : World) (h : Strs w w.heap.size A n ss) (hsz : ∀ s ∈ ss, s.size ≤ 140737488351232) :
    Calls Try.prog 7 #[.slice A n cap] w fun e w' => e = .returned (.bool true) ∧ Below w.heap.size w w' := by
  have hr := hid_mk (leavesD_right ss)
  have h32 := hid_mk (leavesD_32 ss)
  have hl40 := leavesD_len ss
  obtain ⟨ls, hls⟩ : ∃ ls, leavesD ss = ls := ⟨_, rfl⟩
  have hdig := digests_any A n cap ss w h hsz
  rw [hls] at hr h32 hl40 hdig
  have hrt : Hid ((if rightS ls = 0 then Value.tuple #[.string (rootB ls), .int .i64 0] else .tuple #[.string ⟨#[]⟩, .int .i64 (rightS ls)]) = .tuple #[.string (rootB ls), .int .i64 0]) := by rw [Hid, if_pos hr.out]
  have hch : Hid (∀ (i : Nat) (l : ByteArray), ls[i]? = some l → checkB (rootB ls) ls.length i l (proofW dB ls i) = true) := fun i l hl => check_shows h32.out (by omega) hl
  have hr32 : (rootB ls).size = 32 := dB_32 _
  obtain ⟨rt, hrte⟩ : ∃ r, rootB ls = r := ⟨_, rfl⟩
  rw [hrte] at hrt hch hr32
  have hrl : ((rt.size : Int) != 32) = false := by simp; omega
  replace hr32 := hid_mk hr32
  replace hrte := hid_mk hrte
  replace hls := hid_mk hls
  clear h hsz
  refine calls_of_wpQ Try.func7 rfl ?_
  intro Q hQ
  simp only [Try.ntmps7, List.size_toArray, List.length_cons, List.length_nil, Nat.reduceAdd, Nat.reduceSub, Array.replicate_succ, Array.replicate_zero, List.push_toArray, List.append_toArray, List.nil_append, List.cons_append]
  go_wp2_with fail
  refine hdig.mono ?_
  rintro e w1 ⟨A1, n1, c1, rfl, hc1, hS1, hb1, _⟩
  have hn1 : n1 ≤ 40 := by have := hS1.len; omega
  have hn1l : Hid (ls.length = n1) := hS1.len
  replace hb1 := hid_mk hb1
  clear hdig
  go_wp2_with fail
  refine (Root_any A1 n1 c1 ls _ hS1 hc1 (by omega)).mono ?_
  rw [hrte.out, hrt.out]
  rintro e w2 ⟨rfl, hb2⟩
  have q2 := hid_mk (after (w := w) hb2 hb1.out).1
  have hS2 : Hid (Strs w2 w2.heap.size A1 n1 ls) := Reads.topS (Strs.to hS1 hb2)
  clear hb2 hS1 hb1
  go_wp2
  go_loopw [26] (fun iv wr => ∃ (k : Nat), iv = .int .i64 k ∧ k ≤ n1 ∧ Hid (Strs wr wr.heap.size A1 n1 ls) ∧ Hid (Below w.heap.size w wr)) (fun iv _ => n1 - (intOf iv).toNat)
  case atStart => exact ⟨0, rfl, Nat.zero_le _, hS2, q2⟩
  case round =>
    clear hS2 q2
    obtain ⟨k, rfl, hkn, hS, hb⟩ := hrel
    by_cases hlt : k < n1
    · obtain ⟨b0, o0, l, rfl, hbl, _, hsk, hcell⟩ := hS.out.at_ hlt
      have hck := hch.out k l hsk
      rw [hn1l.out] at hck
      obtain ⟨pf, hpf⟩ : ∃ pf, proofW dB ls k = pf := ⟨_, rfl⟩
      rw [hpf] at hck
      replace hpf := hid_mk hpf
      replace hck := hid_mk hck
      replace hsk := hid_mk hsk
      go_wp2_with fail
      refine (Prove_some _ n1 c1 ls k _ hS.out hc1 hr.out hlt).mono ?_
      rw [hpf.out]
      rintro e w3 ⟨A3, n3, c3, rfl, hc3, hS3, hb3⟩
      have q3 := hid_mk (after (w := w) hb3 hb.out).1
      have hS4 : Hid (Strs w3 w3.heap.size (some ⟨b0, o0, none⟩) n1 ls) := Reads.topS (Strs.to hS.out hb3)
      have hn3 : n3 ≤ 8796093022208 := by
        have h1 := hS3.len
        have h2 := proofW_len dB ls.length ls k (Nat.le_refl _)
        have h3 := hpf.out
        have h4 := hn1l.out
        rw [h3] at h2
        omega
      clear hb3
      go_wp2_with fail
      refine (Check_any rt n1 k l A3 n3 c3 pf _ hS3 hn3 hc3).mono ?_
      rw [hck.out]
      rintro e w4 ⟨rfl, hb4⟩
      have q4 := hid_mk (after (w := w) hb4 q3.out).1
      have hS5 : Hid (Strs w4 w4.heap.size (some ⟨b0, o0, none⟩) n1 ls) := Reads.topS (Strs.to hS4.out hb4)
      clear hb4
      go_wp2
      go_roundw
      case rel => exact ⟨k + 1, by go_num, by omega, hS5, q4⟩
      case measure => simp [intOf]; omega
    · go_wp2
      refine ends_ret hQ (results_tmp rfl _ _ _) rfl ?_
      exact ⟨ret_bool rfl, hb.out⟩
theorem LawShows_walk (a0 : Option Addr) (len0 cap0 : Nat) (ss0 : List ByteArray) {w : World} (i0 : Strs w w.heap.size a0 len0 ss0) (_lc0 : len0 ≤ cap0) (_hs0 : cap0 * 16 ≤ 140737488351232) (b0 : ∀ s ∈ ss0, s.size ≤ 140737488351232) :
    Calls Try.prog 7 #[.slice a0 len0 cap0] w fun e w' => e = .returned (.bool true) ∧ Below w.heap.size w w' := LawShows_any a0 len0 cap0 ss0 w i0 b0
end Go.Proofs.Ytlnncpilgpafdaa
