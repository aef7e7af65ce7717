/-
  WHAT IS PROVED HERE: what the law's cut hands back, and the walk of the law MerkleRoots. No condition.
-/
import Derived.Test.YtlnncpilgpafdaaMrk7
import Derived.Test.YtlnncpilgpafdaaMrk4
namespace Go.Proofs.Ytlnncpilgpafdaa
open Go.RowKit

theorem made_new (w W : World) (hW : W.heap.size ≤ w.heap.size) : MadeIs (w.alloc (.cells #[.slice none 0 0] 25)) W.heap.size w.heap.size (.slice none 0 0) [] :=
  ⟨hW, Blk.new _ _ _, OwnM.nil⟩
theorem away_old {w : World} {B n : Nat} {A : Option Addr} {ss : List ByteArray} (h : Strs w B A n ss) (hn : 0 < n) {g : Nat} (hg : w.heap.size ≤ g) {r : Option Nat} (hr : ∀ k, r = some k → w.heap.size ≤ k) : Away A g r := by
  intro b o hbo
  obtain ⟨b2, o2, ea, hlt, _⟩ := h.2 hn
  rw [hbo] at ea
  injection ea with ea
  injection ea with ea
  exact ⟨by omega, fun e => by have := hr b e; omega⟩
def cutS (ss : List ByteArray) : List ByteArray := if 60 < ss.length ∧ ss.length ≤ 4096 then ss.take 60 else ss
def cutN (n : Nat) : Nat := if 60 < n ∧ n ≤ 4096 then 60 else n
theorem cutS_strs {w : World} {B n : Nat} {A : Option Addr} {ss : List ByteArray} (h : Strs w B A n ss) : Strs w B A (cutN n) (cutS ss) := by
  have hl := h.len
  unfold cutS cutN
  rw [hl]
  split
  · exact h.take (by omega)
  · exact h
theorem cutN_le (n : Nat) : cutN n ≤ n := by unfold cutN; split <;> omega
theorem cut_any (A : Option Addr) (n cap : Nat) (w : World) (hc : n ≤ cap) (hcap : cap * 16 ≤ 140737488351232) :
    Calls Try.prog 12 #[.slice A n cap] w fun e w' => e = .returned (.slice A (cutN n) cap) ∧ w = w' := by
  obtain ⟨j0, hj0, hjz, hj1, hj2⟩ := info_parts16 strJ
  rcases (by omega : ¬ 60 < n ∨ (60 < n ∧ n ≤ 4096) ∨ (60 < n ∧ 4096 < n)) with h | ⟨h, h2⟩ | ⟨h, h2⟩
  · have hn : Hid (cutN n = n) := by unfold Hid cutN; rw [if_neg (by omega)]
    refine calls_of_wpQ Try.func12 rfl ?_
    intro Q hQ
    simp only [Try.ntmps12, List.size_toArray, List.length_cons, List.length_nil, Nat.reduceAdd, Nat.reduceSub, Array.replicate_succ, Array.replicate_zero, List.push_toArray, List.append_toArray, List.nil_append, List.cons_append]
    go_wp2
    refine ends_ret hQ (results_tmp rfl _ _ _) rfl ?_
    exact ⟨by rw [hn.out]; rfl, rfl⟩
  · have hn : Hid (cutN n = 60) := by unfold Hid cutN; rw [if_pos ⟨h, h2⟩]
    have hsl := run_slice_upto (P := Try.prog) (w := w) 22 9 Try.underlying22 j0 hj0 A n cap 60 (by omega) (by omega)
    refine calls_of_wpQ Try.func12 rfl ?_
    intro Q hQ
    simp only [Try.ntmps12, List.size_toArray, List.length_cons, List.length_nil, Nat.reduceAdd, Nat.reduceSub, Array.replicate_succ, Array.replicate_zero, List.push_toArray, List.append_toArray, List.nil_append, List.cons_append]
    go_wp2
    refine ends_ret hQ (results_tmp rfl _ _ _) rfl ?_
    exact ⟨by rw [hn.out]; rfl, rfl⟩
  · have hn : Hid (cutN n = n) := by unfold Hid cutN; rw [if_neg (by omega)]
    refine calls_of_wpQ Try.func12 rfl ?_
    intro Q hQ
    simp only [Try.ntmps12, List.size_toArray, List.length_cons, List.length_nil, Nat.reduceAdd, Nat.reduceSub, Array.replicate_succ, Array.replicate_zero, List.push_toArray, List.append_toArray, List.nil_append, List.cons_append]
    go_wp2
    refine ends_ret hQ (results_tmp rfl _ _ _) rfl ?_
    exact ⟨by rw [hn.out]; rfl, rfl⟩
def cut2000 (s : ByteArray) : ByteArray := if 2000 < s.size then s.extract 0 2000 else s
theorem cut2000_size (s : ByteArray) : (cut2000 s).size ≤ 2000 := by
  unfold cut2000
  split
  · rw [ByteArray.size_extract]; omega
  · omega
set_option maxHeartbeats 1600000 in
theorem LawRoots_any (s : ByteArray) (A : Option Addr) (n cap : Nat) (ss : List ByteArray) (w : World) (h0 : Strs w w.heap.size A n ss) (hc0 : n ≤ cap) (hcap : cap * 16 ≤ 140737488351232) (hss : s.size ≤ 140737488351232) :
    Calls Try.prog 5 #[.string s, .slice A n cap] w fun e w' => e = .returned (.bool true) ∧ Below w.heap.size w w' := by
  have h := cutS_strs h0
  have hcn := cutN_le n
  obtain ⟨m, hm⟩ : ∃ m, cutN n = m := ⟨_, rfl⟩
  obtain ⟨ls, hls⟩ : ∃ ls, cutS ss = ls := ⟨_, rfl⟩
  rw [hm] at h hcn
  rw [hls] at h
  have hmc : m ≤ cap := by omega
  have hmb : m ≤ 1099511627776 * 8 := by omega
  have hc2 := cut2000_size s
  obtain ⟨c, hc⟩ : ∃ c, cut2000 s = c := ⟨_, rfl⟩
  rw [hc] at hc2
  obtain ⟨lf, hlf⟩ : ∃ l, dB (leafT c) = l := ⟨_, rfl⟩
  replace hlf := hid_mk hlf
  replace hm := hid_mk hm
  clear hls h0
  have hcut : Hid (cut2000 s = c) := hc
  clear hc
  by_cases hr : rightS ls = 0
  · obtain ⟨hr1, hr2⟩ := rightS_0 hr
    have hlen := h.len
    have hm4 : m ≤ 4096 := by omega
    have hrt : Hid ((if rightS ls = 0 then Value.tuple #[.string (rootB ls), .int .i64 0] else .tuple #[.string ⟨#[]⟩, .int .i64 (rightS ls)]) = .tuple #[.string (rootB ls), .int .i64 0]) := by rw [Hid, if_pos hr]
    obtain ⟨rt, hrte⟩ : ∃ r, rootB ls = r := ⟨_, rfl⟩
    rw [hrte] at hrt
    replace hrte := hid_mk hrte
    replace hr := hid_mk hr
    replace hr2 := hid_mk hr2
    replace hlen := hid_mk hlen
    clear hr1
    by_cases hlt : 2000 < s.size
    case' pos => have hcc : Hid (s.extract 0 2000 = c) := by rw [Hid, ← hcut.out]; unfold cut2000; rw [if_pos hlt]
    case' neg => have hcc : Hid (s = c) := by rw [Hid, ← hcut.out]; unfold cut2000; rw [if_neg hlt]
    all_goals
      refine calls_of_wpQ Try.func5 rfl ?_
      intro Q hQ
      simp only [Try.ntmps5, List.size_toArray, List.length_cons, List.length_nil, Nat.reduceAdd, Nat.reduceSub, Array.replicate_succ, Array.replicate_zero, List.push_toArray, List.append_toArray, List.nil_append, List.cons_append]
      go_wp2_with fail
      refine (cut_any A n cap _ hc0 hcap).mono ?_
      rw [hm.out]
      rintro e w1 ⟨rfl, rfl⟩
      go_wp2_with fail
      refine (Root_any A m cap ls _ h hmc (by omega)).mono ?_
      rw [hrte.out, hrt.out]
      rintro e w2 ⟨rfl, hb2⟩
      have h2 := h.to hb2
      have hs2 := hb2.size
      replace hb2 := hid_mk hb2
      go_wp2_with fail
      rw [hcc.out]
      refine (Leaf_any c _ (by omega)).mono ?_
      rw [hlf.out]
      rintro e w3 ⟨rfl, hb3⟩
      have q3 := hid_mk (after (w := w) hb3 hb2.out).1
      have h3 := h2.to hb3
      clear hb3
      go_wp2_with fail
      refine (RLeaf_any c _ (by omega)).mono ?_
      rw [hlf.out]
      rintro e w4 ⟨rfl, hb4⟩
      have q4 := hid_mk (after (w := w) hb4 q3.out).1
      have h4 := h3.to hb4
      clear hb4
      go_wp2_with fail
      refine (RRight_any A m cap ls _ h4 (by omega)).mono ?_
      rw [hr.out]
      rintro e w5 ⟨rfl, rfl⟩
      have hM := made_new w4 w q4.out.size
      have hqA : Below w.heap.size w (w4.alloc (.cells #[.slice none 0 0] 25)) := q4.out.alloc q4.out.size _
      have haw : 0 < m → Away A w4.heap.size (Value.slice none 0 0).ownBlock := fun e => away_old h4 e (Nat.le_refl _) (by simp [Value.ownBlock])
      have h5 := h4.to (w' := w4.alloc (.cells #[.slice none 0 0] 25)) (by go_grown)
      have hg4 := q4.out.size
      replace hM := hid_mk hM
      replace hqA := hid_mk hqA
      go_wp2_with fail
      refine (MRoot_any hqA.out _ _ _ hM.out A m cap ls h5 haw hm4 hmc hr2.out (by simp)).mono ?_
      rw [hrte.out]
      rintro e w6 ⟨v6, rfl, hM6, hT6, hm6⟩
      have q6 := TwoM.below hT6 hqA.out hqA.out.size hg4 (fun k hk => by simp [Value.ownBlock] at hk)
      replace hM6 := hid_mk hM6
      go_wp2
      refine ends_ret hQ (results_tmp rfl _ _ _) rfl ?_
      exact ⟨ret_bool (by simp), q6⟩
  · obtain ⟨r, hre⟩ : ∃ r, rightS ls = r := ⟨_, rfl⟩
    have hrt : Hid ((if rightS ls = 0 then Value.tuple #[.string (rootB ls), .int .i64 0] else .tuple #[.string ⟨#[]⟩, .int .i64 (rightS ls)]) = .tuple #[.string ⟨#[]⟩, .int .i64 r]) := by rw [Hid, if_neg hr, hre]
    rw [hre] at hr
    have hne : (r != 0) = true := by simpa using hr
    replace hre := hid_mk hre
    clear hr
    by_cases hlt : 2000 < s.size
    case' pos => have hcc : Hid (s.extract 0 2000 = c) := by rw [Hid, ← hcut.out]; unfold cut2000; rw [if_pos hlt]
    case' neg => have hcc : Hid (s = c) := by rw [Hid, ← hcut.out]; unfold cut2000; rw [if_neg hlt]
    all_goals
      refine calls_of_wpQ Try.func5 rfl ?_
      intro Q hQ
      simp only [Try.ntmps5, List.size_toArray, List.length_cons, List.length_nil, Nat.reduceAdd, Nat.reduceSub, Array.replicate_succ, Array.replicate_zero, List.push_toArray, List.append_toArray, List.nil_append, List.cons_append]
      go_wp2_with fail
      refine (cut_any A n cap _ hc0 hcap).mono ?_
      rw [hm.out]
      rintro e w1 ⟨rfl, rfl⟩
      go_wp2_with fail
      refine (Root_any A m cap ls _ h hmc (by omega)).mono ?_
      rw [hrt.out]
      rintro e w2 ⟨rfl, hb2⟩
      have h2 := h.to hb2
      replace hb2 := hid_mk hb2
      go_wp2_with fail
      rw [hcc.out]
      refine (Leaf_any c _ (by omega)).mono ?_
      rw [hlf.out]
      rintro e w3 ⟨rfl, hb3⟩
      have q3 := hid_mk (after (w := w) hb3 hb2.out).1
      have h3 := h2.to hb3
      clear hb3
      go_wp2_with fail
      refine (RLeaf_any c _ (by omega)).mono ?_
      rw [hlf.out]
      rintro e w4 ⟨rfl, hb4⟩
      have q4 := hid_mk (after (w := w) hb4 q3.out).1
      have h4 := h3.to hb4
      clear hb4
      go_wp2_with fail
      refine (RRight_any A m cap ls _ h4 (by omega)).mono ?_
      rw [hre.out]
      rintro e w5 ⟨rfl, rfl⟩
      go_wp2
      refine ends_ret hQ (results_tmp rfl _ _ _) rfl ?_
      exact ⟨ret_bool (by simp), q4.out⟩
theorem LawRoots_walk (s0 : ByteArray) (hs0 : s0.size ≤ 140737488351232) (a1 : Option Addr) (len1 cap1 : Nat) (ss1 : List ByteArray) {w : World} (i1 : Strs w w.heap.size a1 len1 ss1) (lc1 : len1 ≤ cap1) (hs1 : cap1 * 16 ≤ 140737488351232) (_b1 : ∀ s ∈ ss1, s.size ≤ 140737488351232) :
    Calls Try.prog 5 #[.string s0, .slice a1 len1 cap1] w fun e w' => e = .returned (.bool true) ∧ Below w.heap.size w w' := LawRoots_any s0 a1 len1 cap1 ss1 w i1 lc1 hs1 hs0
end Go.Proofs.Ytlnncpilgpafdaa
