/-
  WHAT IS PROVED HERE: what merkle's right, pair, crown, Leaf and above hand back. Conditions: texts of at most 2^38 bytes.
-/
import Derived.Test.YtlnncpilgpafdaaSha5
import Derived.Test.YtlnncpilgpafdaaOpenS
import Derived.Test.YtlnncpilgpafdaaMrkP
namespace Go.Proofs.Ytlnncpilgpafdaa
open Go.RowKit

/-- a text's digest -/
def dB (s : ByteArray) : ByteArray := ⟨(digL s.data.toList).toArray⟩
theorem dB_32 (s : ByteArray) : (dB s).size = 32 := digL_len _
def bad32 (s : ByteArray) : Bool := decide (s.size ≠ 32)
theorem strJ : (Try.prog.info? 9).map (fun i => (i.zero, i.size, i.bytes)) = some (some (.string ByteArray.empty), 1, 16) := by kernel_rfl
theorem info_parts16 {P : Program} {t : TypeId} {z : Value} (h : (P.info? t).map (fun i => (i.zero, i.size, i.bytes)) = some (some z, 1, 16)) : ∃ i, P.info? t = some i ∧ i.zero = some z ∧ i.size = 1 ∧ i.bytes = 16 := by
  obtain ⟨i, hi, he⟩ := Option.map_eq_some_iff.1 h
  injection he with e1 e2
  injection e2 with e2 e3
  exact ⟨i, hi, e1, e2, e3⟩
theorem vstr_one (xs : List ByteArray) : ∀ u ∈ xs.map vstr, u.oneCell' = true := by
  intro u hu
  simp only [List.mem_map] at hu
  obtain ⟨c, _, rfl⟩ := hu
  rfl
theorem right1_any (s : ByteArray) (w : World) : Calls Try.prog 38 #[.string s] w fun e w' => e = .returned (.bool (bad32 s)) ∧ w = w' := by
  refine calls_of_wpQ Try.func38 rfl ?_
  intro Q hQ
  simp only [Try.ntmps38, List.size_toArray, List.length_cons, List.length_nil, Nat.reduceAdd, Nat.reduceSub, Array.replicate_succ, Array.replicate_zero, List.push_toArray, List.append_toArray, List.nil_append, List.cons_append]
  go_wp2
  refine ends_ret hQ (results_tmp rfl _ _ _) rfl ?_
  exact ⟨ret_bool (by unfold bad32; rw [Bool.eq_iff_iff]; simp; omega), rfl⟩
theorem check1_any (s : ByteArray) (w : World) : Calls Try.prog 26 #[.string s] w fun e w' => e = .returned (.bool (bad32 s)) ∧ w = w' := by
  refine calls_of_wpQ Try.func26 rfl ?_
  intro Q hQ
  simp only [Try.ntmps26, List.size_toArray, List.length_cons, List.length_nil, Nat.reduceAdd, Nat.reduceSub, Array.replicate_succ, Array.replicate_zero, List.push_toArray, List.append_toArray, List.nil_append, List.cons_append]
  go_wp2
  refine ends_ret hQ (results_tmp rfl _ _ _) rfl ?_
  exact ⟨ret_bool (by unfold bad32; rw [Bool.eq_iff_iff]; simp; omega), rfl⟩
theorem any_split : ∀ (l : List ByteArray), l.any bad32 = true → ∃ (k : Nat) (s : ByteArray), l[k]? = some s ∧ bad32 s = true ∧ ∀ (j : Nat) (t : ByteArray), j < k → l[j]? = some t → bad32 t = false
  | [], h => by simp at h
  | a :: r, h => by
    cases ha : bad32 a
    · rw [List.any_cons, ha, Bool.false_or] at h
      obtain ⟨k, s, h1, h2, h3⟩ := any_split r h
      refine ⟨k + 1, s, h1, h2, fun j t hj ht => ?_⟩
      rcases j with _ | j
      · simp at ht; rw [← ht, ha]
      · exact h3 j t (by omega) ht
    · exact ⟨0, a, rfl, ha, fun j t hj _ => by omega⟩
theorem IndexF_noneR (A : Option Addr) (n cap : Nat) (ss : List ByteArray) (w : World) {B : Nat} (h : Strs w B A n ss) (hn : n ≤ 8796093022208) (hb : ss.any bad32 = false) :
    Calls Try.prog 34 #[.slice A n cap, .func (.func 38) #[] #[]] w fun e w' => e = .returned (.int .i64 (-1)) ∧ w = w' := by
  replace hb := hid_mk hb
  refine calls_of_wpQ Try.func34 rfl ?_
  intro Q hQ
  simp only [Try.ntmps34, List.size_toArray, List.length_cons, List.length_nil, Nat.reduceAdd, Nat.reduceSub, Array.replicate_succ, Array.replicate_zero, List.push_toArray, List.append_toArray, List.nil_append, List.cons_append]
  go_wp2
  go_loop [8] (fun i => ∃ k : Nat, k ≤ n ∧ i = .int .i64 k) (fun i => n - (intOf i).toNat)
  case atStart => exact ⟨0, Nat.zero_le _, rfl⟩
  case round =>
    obtain ⟨k, hk, rfl⟩ := hrel
    by_cases hlt : k < n
    · obtain ⟨b, o, s, rfl, _, _, hsk, hcell⟩ := h.at_ hlt
      have hbs : bad32 s = false := by
        have := List.any_eq_false.1 hb.out s (List.mem_of_getElem? hsk)
        simpa using this
      replace hsk := hid_mk hsk
      go_wp2_with fail
      refine (right1_any s _).mono ?_
      rw [hbs]
      rintro e w1 ⟨rfl, rfl⟩
      go_wp2
      go_round
      case rel => exact ⟨k + 1, by omega, by go_num⟩
      case measure => simp [intOf]; omega
    · go_wp2
      refine ends_ret hQ (results_tmp rfl _ _ _) rfl ?_
      exact ⟨rfl, rfl⟩
theorem IndexF_someR (A : Option Addr) (n cap : Nat) (ss : List ByteArray) (w : World) {B : Nat} (h : Strs w B A n ss) (hn : n ≤ 8796093022208) (m : Nat) (sm : ByteArray) (hm : ss[m]? = some sm) (hbm : bad32 sm = true) (hlow : ∀ j t, j < m → ss[j]? = some t → bad32 t = false) :
    Calls Try.prog 34 #[.slice A n cap, .func (.func 38) #[] #[]] w fun e w' => e = .returned (.int .i64 m) ∧ w = w' := by
  have hmn : m < n := by
    rcases Nat.lt_or_ge m ss.length with h' | h'
    · have := h.len; omega
    · rw [List.getElem?_eq_none h'] at hm; cases hm
  replace hm := hid_mk hm
  replace hlow := hid_mk hlow
  refine calls_of_wpQ Try.func34 rfl ?_
  intro Q hQ
  simp only [Try.ntmps34, List.size_toArray, List.length_cons, List.length_nil, Nat.reduceAdd, Nat.reduceSub, Array.replicate_succ, Array.replicate_zero, List.push_toArray, List.append_toArray, List.nil_append, List.cons_append]
  go_wp2
  go_loop [8] (fun i => ∃ k : Nat, k ≤ m ∧ i = .int .i64 k) (fun i => n - (intOf i).toNat)
  case atStart => exact ⟨0, Nat.zero_le _, rfl⟩
  case round =>
    obtain ⟨k, hk, rfl⟩ := hrel
    have hlt : k < n := by omega
    obtain ⟨b, o, s, rfl, _, _, hsk, hcell⟩ := h.at_ hlt
    by_cases hkm : k < m
    · have hbs : bad32 s = false := hlow.out k s hkm hsk
      replace hsk := hid_mk hsk
      go_wp2_with fail
      refine (right1_any s _).mono ?_
      rw [hbs]
      rintro e w1 ⟨rfl, rfl⟩
      go_wp2
      go_round
      case rel => exact ⟨k + 1, by omega, by go_num⟩
      case measure => simp [intOf]; omega
    · obtain rfl : k = m := by omega
      have hbs : bad32 s = true := by
        have h1 := hm.out
        rw [hsk] at h1
        injection h1 with h1
        rw [h1, hbm]
      replace hsk := hid_mk hsk
      go_wp2_with fail
      refine (right1_any s _).mono ?_
      rw [hbs]
      rintro e w1 ⟨rfl, rfl⟩
      go_wp2
      refine ends_ret hQ (results_tmp rfl _ _ _) rfl ?_
      exact ⟨rfl, rfl⟩
theorem ContainsF_anyR (A : Option Addr) (n cap : Nat) (ss : List ByteArray) (w : World) {B : Nat} (h : Strs w B A n ss) (hn : n ≤ 8796093022208) :
    Calls Try.prog 25 #[.slice A n cap, .func (.func 38) #[] #[]] w fun e w' => e = .returned (.bool (ss.any bad32)) ∧ w = w' := by
  cases hb : ss.any bad32
  · have H := IndexF_noneR A n cap ss w h hn hb
    clear hb
    refine calls_of_wpQ Try.func25 rfl ?_
    intro Q hQ
    simp only [Try.ntmps25, List.size_toArray, List.length_cons, List.length_nil, Nat.reduceAdd, Nat.reduceSub, Array.replicate_succ, Array.replicate_zero, List.push_toArray, List.append_toArray, List.nil_append, List.cons_append]
    go_wp2_with fail
    refine H.mono ?_
    rintro e w1 ⟨rfl, rfl⟩
    go_wp2
    refine ends_ret hQ (results_tmp rfl _ _ _) rfl ?_
    exact ⟨rfl, rfl⟩
  · obtain ⟨m, s, h1, h2, h3⟩ := any_split ss hb
    have H := IndexF_someR A n cap ss w h hn m s h1 h2 h3
    clear hb h1 h2 h3
    refine calls_of_wpQ Try.func25 rfl ?_
    intro Q hQ
    simp only [Try.ntmps25, List.size_toArray, List.length_cons, List.length_nil, Nat.reduceAdd, Nat.reduceSub, Array.replicate_succ, Array.replicate_zero, List.push_toArray, List.append_toArray, List.nil_append, List.cons_append]
    go_wp2_with fail
    refine H.mono ?_
    rintro e w1 ⟨rfl, rfl⟩
    go_wp2
    refine ends_ret hQ (results_tmp rfl _ _ _) rfl ?_
    exact ⟨ret_bool (by simp), rfl⟩
theorem IndexF_noneC (A : Option Addr) (n cap : Nat) (ss : List ByteArray) (w : World) {B : Nat} (h : Strs w B A n ss) (hn : n ≤ 8796093022208) (hb : ss.any bad32 = false) :
    Calls Try.prog 34 #[.slice A n cap, .func (.func 26) #[] #[]] w fun e w' => e = .returned (.int .i64 (-1)) ∧ w = w' := by
  replace hb := hid_mk hb
  refine calls_of_wpQ Try.func34 rfl ?_
  intro Q hQ
  simp only [Try.ntmps34, List.size_toArray, List.length_cons, List.length_nil, Nat.reduceAdd, Nat.reduceSub, Array.replicate_succ, Array.replicate_zero, List.push_toArray, List.append_toArray, List.nil_append, List.cons_append]
  go_wp2
  go_loop [8] (fun i => ∃ k : Nat, k ≤ n ∧ i = .int .i64 k) (fun i => n - (intOf i).toNat)
  case atStart => exact ⟨0, Nat.zero_le _, rfl⟩
  case round =>
    obtain ⟨k, hk, rfl⟩ := hrel
    by_cases hlt : k < n
    · obtain ⟨b, o, s, rfl, _, _, hsk, hcell⟩ := h.at_ hlt
      have hbs : bad32 s = false := by
        have := List.any_eq_false.1 hb.out s (List.mem_of_getElem? hsk)
        simpa using this
      replace hsk := hid_mk hsk
      go_wp2_with fail
      refine (check1_any s _).mono ?_
      rw [hbs]
      rintro e w1 ⟨rfl, rfl⟩
      go_wp2
      go_round
      case rel => exact ⟨k + 1, by omega, by go_num⟩
      case measure => simp [intOf]; omega
    · go_wp2
      refine ends_ret hQ (results_tmp rfl _ _ _) rfl ?_
      exact ⟨rfl, rfl⟩
theorem IndexF_someC (A : Option Addr) (n cap : Nat) (ss : List ByteArray) (w : World) {B : Nat} (h : Strs w B A n ss) (hn : n ≤ 8796093022208) (m : Nat) (sm : ByteArray) (hm : ss[m]? = some sm) (hbm : bad32 sm = true) (hlow : ∀ j t, j < m → ss[j]? = some t → bad32 t = false) :
    Calls Try.prog 34 #[.slice A n cap, .func (.func 26) #[] #[]] w fun e w' => e = .returned (.int .i64 m) ∧ w = w' := by
  have hmn : m < n := by
    rcases Nat.lt_or_ge m ss.length with h' | h'
    · have := h.len; omega
    · rw [List.getElem?_eq_none h'] at hm; cases hm
  replace hm := hid_mk hm
  replace hlow := hid_mk hlow
  refine calls_of_wpQ Try.func34 rfl ?_
  intro Q hQ
  simp only [Try.ntmps34, List.size_toArray, List.length_cons, List.length_nil, Nat.reduceAdd, Nat.reduceSub, Array.replicate_succ, Array.replicate_zero, List.push_toArray, List.append_toArray, List.nil_append, List.cons_append]
  go_wp2
  go_loop [8] (fun i => ∃ k : Nat, k ≤ m ∧ i = .int .i64 k) (fun i => n - (intOf i).toNat)
  case atStart => exact ⟨0, Nat.zero_le _, rfl⟩
  case round =>
    obtain ⟨k, hk, rfl⟩ := hrel
    have hlt : k < n := by omega
    obtain ⟨b, o, s, rfl, _, _, hsk, hcell⟩ := h.at_ hlt
    by_cases hkm : k < m
    · have hbs : bad32 s = false := hlow.out k s hkm hsk
      replace hsk := hid_mk hsk
      go_wp2_with fail
      refine (check1_any s _).mono ?_
      rw [hbs]
      rintro e w1 ⟨rfl, rfl⟩
      go_wp2
      go_round
      case rel => exact ⟨k + 1, by omega, by go_num⟩
      case measure => simp [intOf]; omega
    · obtain rfl : k = m := by omega
      have hbs : bad32 s = true := by
        have h1 := hm.out
        rw [hsk] at h1
        injection h1 with h1
        rw [h1, hbm]
      replace hsk := hid_mk hsk
      go_wp2_with fail
      refine (check1_any s _).mono ?_
      rw [hbs]
      rintro e w1 ⟨rfl, rfl⟩
      go_wp2
      refine ends_ret hQ (results_tmp rfl _ _ _) rfl ?_
      exact ⟨rfl, rfl⟩
theorem ContainsF_anyC (A : Option Addr) (n cap : Nat) (ss : List ByteArray) (w : World) {B : Nat} (h : Strs w B A n ss) (hn : n ≤ 8796093022208) :
    Calls Try.prog 25 #[.slice A n cap, .func (.func 26) #[] #[]] w fun e w' => e = .returned (.bool (ss.any bad32)) ∧ w = w' := by
  cases hb : ss.any bad32
  · have H := IndexF_noneC A n cap ss w h hn hb
    clear hb
    refine calls_of_wpQ Try.func25 rfl ?_
    intro Q hQ
    simp only [Try.ntmps25, List.size_toArray, List.length_cons, List.length_nil, Nat.reduceAdd, Nat.reduceSub, Array.replicate_succ, Array.replicate_zero, List.push_toArray, List.append_toArray, List.nil_append, List.cons_append]
    go_wp2_with fail
    refine H.mono ?_
    rintro e w1 ⟨rfl, rfl⟩
    go_wp2
    refine ends_ret hQ (results_tmp rfl _ _ _) rfl ?_
    exact ⟨rfl, rfl⟩
  · obtain ⟨m, s, h1, h2, h3⟩ := any_split ss hb
    have H := IndexF_someC A n cap ss w h hn m s h1 h2 h3
    clear hb h1 h2 h3
    refine calls_of_wpQ Try.func25 rfl ?_
    intro Q hQ
    simp only [Try.ntmps25, List.size_toArray, List.length_cons, List.length_nil, Nat.reduceAdd, Nat.reduceSub, Array.replicate_succ, Array.replicate_zero, List.push_toArray, List.append_toArray, List.nil_append, List.cons_append]
    go_wp2_with fail
    refine H.mono ?_
    rintro e w1 ⟨rfl, rfl⟩
    go_wp2
    refine ends_ret hQ (results_tmp rfl _ _ _) rfl ?_
    exact ⟨ret_bool (by simp), rfl⟩
/-- may leaves be? (0: yes; 2: too many; 1: one is no digest) -/
def rightS (ss : List ByteArray) : Int := if 4096 < ss.length then 2 else if ss.any bad32 = true then 1 else 0
theorem right_any (A : Option Addr) (n cap : Nat) (ss : List ByteArray) (w : World) {B : Nat} (h : Strs w B A n ss) (hn : n ≤ 8796093022208) :
    Calls Try.prog 30 #[.slice A n cap] w fun e w' => e = .returned (.int .i64 (rightS ss)) ∧ w = w' := by
  have hl := hid_mk h.len
  by_cases hlen : 4096 < n
  · have hr : Hid (rightS ss = 2) := by unfold Hid rightS; rw [if_pos (by rw [hl.out]; exact hlen)]
    refine calls_of_wpQ Try.func30 rfl ?_
    intro Q hQ
    simp only [Try.ntmps30, List.size_toArray, List.length_cons, List.length_nil, Nat.reduceAdd, Nat.reduceSub, Array.replicate_succ, Array.replicate_zero, List.push_toArray, List.append_toArray, List.nil_append, List.cons_append]
    go_wp2
    refine ends_ret hQ (results_tmp rfl _ _ _) rfl ?_
    exact ⟨by rw [hr.out]; rfl, rfl⟩
  · cases hb : ss.any bad32
    · have hr : Hid (rightS ss = 0) := by unfold Hid rightS; rw [if_neg (by rw [hl.out]; exact hlen), hb, if_neg (by simp)]
      replace hb := hid_mk hb
      refine calls_of_wpQ Try.func30 rfl ?_
      intro Q hQ
      simp only [Try.ntmps30, List.size_toArray, List.length_cons, List.length_nil, Nat.reduceAdd, Nat.reduceSub, Array.replicate_succ, Array.replicate_zero, List.push_toArray, List.append_toArray, List.nil_append, List.cons_append]
      go_wp2_with fail
      refine (ContainsF_anyR A n cap ss _ h hn).mono ?_
      rw [hb.out]
      rintro e w1 ⟨rfl, rfl⟩
      go_wp2
      refine ends_ret hQ (results_tmp rfl _ _ _) rfl ?_
      exact ⟨by rw [hr.out]; rfl, rfl⟩
    · have hr : Hid (rightS ss = 1) := by unfold Hid rightS; rw [if_neg (by rw [hl.out]; exact hlen), hb, if_pos rfl]
      replace hb := hid_mk hb
      refine calls_of_wpQ Try.func30 rfl ?_
      intro Q hQ
      simp only [Try.ntmps30, List.size_toArray, List.length_cons, List.length_nil, Nat.reduceAdd, Nat.reduceSub, Array.replicate_succ, Array.replicate_zero, List.push_toArray, List.append_toArray, List.nil_append, List.cons_append]
      go_wp2_with fail
      refine (ContainsF_anyR A n cap ss _ h hn).mono ?_
      rw [hb.out]
      rintro e w1 ⟨rfl, rfl⟩
      go_wp2
      refine ends_ret hQ (results_tmp rfl _ _ _) rfl ?_
      exact ⟨by rw [hr.out]; rfl, rfl⟩
theorem pair_any (a b : ByteArray) (w : World) (ha : a.size ≤ 137438953472) (hb : b.size ≤ 137438953472) :
    Calls Try.prog 27 #[.string a, .string b] w fun e w' => e = .returned (.string (dB (pairT a b))) ∧ Below w.heap.size w w' := by
  have hT : Hid ((⟨#[1]⟩ : ByteArray) ++ a ++ b = pairT a b) := rfl
  have hs : (pairT a b).size ≤ 549755813888 := by
    unfold pairT
    rw [ByteArray.size_append, ByteArray.size_append]
    have : (⟨#[1]⟩ : ByteArray).size = 1 := rfl
    omega
  refine calls_of_wpQ Try.func27 rfl ?_
  intro Q hQ
  simp only [Try.ntmps27, List.size_toArray, List.length_cons, List.length_nil, Nat.reduceAdd, Nat.reduceSub, Array.replicate_succ, Array.replicate_zero, List.push_toArray, List.append_toArray, List.nil_append, List.cons_append]
  go_wp2_with fail
  rw [hT.out]
  refine (Of_any (pairT a b) _ hs).mono ?_
  rintro e w1 ⟨rfl, hb1⟩
  go_wp2
  refine ends_ret hQ (results_tmp rfl _ _ _) rfl ?_
  exact ⟨rfl, hb1⟩
def leafT (c : ByteArray) : ByteArray := (⟨#[0]⟩ : ByteArray) ++ c
theorem Leaf_any (c : ByteArray) (w : World) (hc : c.size ≤ 137438953472) :
    Calls Try.prog 11 #[.string c] w fun e w' => e = .returned (.string (dB (leafT c))) ∧ Below w.heap.size w w' := by
  have hT : Hid ((⟨#[0]⟩ : ByteArray) ++ c = leafT c) := rfl
  have hs : (leafT c).size ≤ 549755813888 := by
    unfold leafT
    rw [ByteArray.size_append]
    have : (⟨#[0]⟩ : ByteArray).size = 1 := rfl
    omega
  refine calls_of_wpQ Try.func11 rfl ?_
  intro Q hQ
  simp only [Try.ntmps11, List.size_toArray, List.length_cons, List.length_nil, Nat.reduceAdd, Nat.reduceSub, Array.replicate_succ, Array.replicate_zero, List.push_toArray, List.append_toArray, List.nil_append, List.cons_append]
  go_wp2_with fail
  rw [hT.out]
  refine (Of_any (leafT c) _ hs).mono ?_
  rintro e w1 ⟨rfl, hb1⟩
  go_wp2
  refine ends_ret hQ (results_tmp rfl _ _ _) rfl ?_
  exact ⟨rfl, hb1⟩
theorem crown_any (n : Nat) (top : ByteArray) (w : World) (hn : n ≤ 1000000) (ht : top.size ≤ 137438953472) :
    Calls Try.prog 28 #[.int .i64 n, .string top] w fun e w' => e = .returned (.string (dB (crownT n top))) ∧ Below w.heap.size w w' := by
  have hC : (Lib.byteCells [2, UInt8.ofNat (n / 16777216), UInt8.ofNat (n / 65536), UInt8.ofNat (n / 256), UInt8.ofNat n]).toArray = #[.int .u8 2, .int .u8 ((n : Int) / 16777216), .int .u8 ((n : Int) / 65536), .int .u8 ((n : Int) / 256 % 256), .int .u8 ((n : Int) % 256)] := by
    unfold Lib.byteCells
    simp [UInt8.toNat_ofNat']
    omega
  have hrow := reads_new w (Lib.byteCells [2, UInt8.ofNat (n / 16777216), UInt8.ofNat (n / 65536), UInt8.ofNat (n / 256), UInt8.ofNat n]).toArray 5 5 1 w.heap.size rfl
  have hcv := conv_row (c := 5) hrow
  rw [hC] at hcv
  have hT : Hid ((⟨[2, UInt8.ofNat (n / 16777216), UInt8.ofNat (n / 65536), UInt8.ofNat (n / 256), UInt8.ofNat n].toArray⟩ : ByteArray) ++ top = crownT n top) := rfl
  obtain ⟨hd, hhd⟩ : ∃ hd : ByteArray, (⟨[2, UInt8.ofNat (n / 16777216), UInt8.ofNat (n / 65536), UInt8.ofNat (n / 256), UInt8.ofNat n].toArray⟩ : ByteArray) = hd := ⟨_, rfl⟩
  rw [hhd] at hT hcv
  have hs5 : hd.size = 5 := by rw [← hhd]; rfl
  have hs : (crownT n top).size ≤ 549755813888 := by rw [← hT.out, ByteArray.size_append]; omega
  have hs6 : hd.size ≤ 5 := by omega
  clear hC hrow hhd hs5
  refine calls_of_wpQ Try.func28 rfl ?_
  intro Q hQ
  simp only [Try.ntmps28, List.size_toArray, List.length_cons, List.length_nil, Nat.reduceAdd, Nat.reduceSub, Array.replicate_succ, Array.replicate_zero, List.push_toArray, List.append_toArray, List.nil_append, List.cons_append]
  go_wp2_with fail
  rw [hT.out]
  refine (Of_any (crownT n top) _ hs).mono ?_
  rintro e w1 ⟨rfl, hb1⟩
  have q1 := (after (w := w) hb1 (by go_grown)).1
  go_wp2
  refine ends_ret hQ (results_tmp rfl _ _ _) rfl ?_
  exact ⟨rfl, q1⟩
def lenW : Value → Nat
  | .slice _ n _ => n
  | _ => 0
theorem Reads.topS {w : World} {B size n : Nat} {e : TypeId} {A : Option Addr} {xs : List Value} (h : Reads w B e size A n xs) : Reads w w.heap.size e size A n xs :=
  ⟨h.1, fun hn => by
    obtain ⟨b, o, ea, hlt, _, hc⟩ := h.2 hn
    exact ⟨b, o, ea, hlt, .inl hlt, hc⟩⟩
theorem Reads.grow {w w' : World} {B size n : Nat} {e : TypeId} {A : Option Addr} {xs : List Value} {row : Option Nat} (h : Reads w B e size A n xs) (hg : w.grownBy w' row) (hne : ∀ b o, A = some ⟨b, o, none⟩ → row ≠ some b) : Reads w' w'.heap.size e size A n xs :=
  ⟨h.1, fun hn => by
    obtain ⟨b, o, ea, hlt, _, hc⟩ := h.2 hn
    have hlt2 : b < w'.heap.size := Nat.lt_of_lt_of_le hlt hg.size
    exact ⟨b, o, ea, hlt2, .inl hlt2, fun j u hu => (World.cell?_of_block (a := ⟨b, o + j, none⟩) (hg.block b hlt (fun e => hne b o ea e.symm))).trans (hc j u hu)⟩⟩
def RetStrs (w : World) (ss : List ByteArray) (e : Ending) (w' : World) : Prop := ∃ A n c, e = .returned (.slice A n c) ∧ n ≤ c ∧ Strs w' w.heap.size A n ss ∧ Below w.heap.size w w' ∧ ∀ b o, A = some ⟨b, o, none⟩ → w.heap.size ≤ b
theorem two_rest {l : List ByteArray} (h : 1 < l.length) : ∃ a b r, l = a :: b :: r := by
  match l, h with
  | a :: b :: r, _ => exact ⟨a, b, r, rfl⟩
theorem slice_two (A : Option Addr) (n cap : Nat) (w : World) (h : 2 ≤ cap) : (Instr.slice 22 (.slice A n cap) (some (.int .i64 0)) (some (.int .i64 2)) (some (.int .i64 2))).run Try.prog w = .ok (.slice A 2 2) w := by
  obtain ⟨i0, hi0, _⟩ := info_parts16 strJ
  have h1 : ¬ ((cap : Int) < 2) := by omega
  simp [Instr.slice, Instr.sliceBounds, run_underlying Try.underlying22, sizeOf, typeInfo, hi0, go_sem, h1]
set_option maxHeartbeats 1600000 in
theorem above_any (A : Option Addr) (n cap : Nat) (ss : List ByteArray) (w : World) {B : Nat} (h : Strs w B A n ss) (hn : n ≤ 4096) (hcap : n ≤ cap) (h32 : ∀ s ∈ ss, s.size = 32) :
    Calls Try.prog 31 #[.slice A n cap] w (RetStrs w (aboveL dB ss)) := by
  obtain ⟨j0, hj0, hjz, hj1, hj2⟩ := info_parts16 strJ
  have hR0 : Hid (Strs w w.heap.size A n ss) := Reads.topS h
  replace h32 := hid_mk h32
  clear h
  have ho0 : OwnM w w.heap.size 9 (.slice none 0 0) 0 (([] : List ByteArray).map vstr) := OwnM.nil
  refine calls_of_wpQ Try.func31 rfl ?_
  intro Q hQ
  simp only [Try.ntmps31, List.size_toArray, List.length_cons, List.length_nil, Nat.reduceAdd, Nat.reduceSub, Array.replicate_succ, Array.replicate_zero, List.push_toArray, List.append_toArray, List.nil_append, List.cons_append]
  go_wp2
  go_loopw [0, 3] (fun s o wr => ∃ (n' c' m co : Nat) (A' Ao : Option Addr) (rest outs : List ByteArray), s = .slice A' n' c' ∧ n' ≤ c' ∧ o = .slice Ao m co ∧ m + n' ≤ 4096 ∧ Hid (Strs w w.heap.size A' n' rest) ∧ OwnM wr w.heap.size 9 (.slice Ao m co) m (outs.map vstr) ∧ Hid (aboveL dB ss = outs ++ aboveL dB rest) ∧ Hid (∀ s ∈ rest, s.size = 32) ∧ Hid (Below w.heap.size w wr)) (fun s _ _ => lenW s)
  case atStart => exact ⟨n, cap, 0, 0, A, none, ss, [], rfl, hcap, rfl, by omega, hR0, ho0, rfl, h32, hid_mk (Below.refl _ _)⟩
  case round =>
    clear hR0 ho0 h32 hcap hn
    obtain ⟨n', c', m, co, A', Ao, rest, outs, rfl, hc', rfl, hmn, hR, hown, hab, h32, hb⟩ := hrel
    by_cases hlt : 1 < n'
    · obtain ⟨a, b, r, rfl⟩ := two_rest (l := rest) (by rw [hR.out.len]; exact hlt)
      have ha : a.size ≤ 137438953472 := by rw [h32.out a (by simp)]; omega
      have hb' : b.size ≤ 137438953472 := by rw [h32.out b (by simp)]; omega
      obtain ⟨b0, o0, rfl, hbl, _, hc⟩ := hR.out.2 (by omega)
      have z0 : Hid (w.cell? ⟨b0, o0, none⟩ = some (.string a)) := hc 0 _ rfl
      have z1 : Hid (w.cell? ⟨b0, o0 + 1, none⟩ = some (.string b)) := hc 1 _ rfl
      have c0 : wr.cell? ⟨b0, o0, none⟩ = some (.string a) := ((bcell hb.out).1 _ _ hbl).trans z0.out
      have c1 : wr.cell? ⟨b0, o0 + 1, none⟩ = some (.string b) := ((bcell hb.out).1 _ _ hbl).trans z1.out
      have hblr : b0 < wr.heap.size := Nat.lt_of_lt_of_le hbl hb.out.size
      clear hc
      have hs2 := slice_two (some ⟨b0, o0, none⟩) n' c' wr (by omega)
      obtain ⟨p, hp⟩ : ∃ p, dB (pairT a b) = p := ⟨_, rfl⟩
      have hab2 : Hid (aboveL dB ss = (outs ++ [p]) ++ aboveL dB r) := by rw [Hid, hab.out, aboveL, hp, List.append_assoc]; rfl
      replace hp := hid_mk hp
      go_wp2_with fail
      go_region_held3 (fun w' => w'.cell? ⟨b0, o0, none⟩ = some (.string a) ∧ w'.cell? ⟨b0, o0 + 1, none⟩ = some (.string b)) ((first | (refine ⟨?_, ?_⟩ <;> assumption) | go_keep)) (first | (go_at_call 27; refine (pair_any a b _ ha hb').mono ?_; rw [hp.out]; rintro e w2 ⟨rfl, hb2⟩; have k2 : Below wr.heap.size wr w2 := (Below.trans (by go_grown) hb2); have q2 := hid_mk (hb.out.trans (k2.mono hb.out.size)); have own2 := hown.below k2; have d0 := ((bcell q2.out).1 _ _ hbl).trans z0.out; have d1 := ((bcell q2.out).1 _ _ hbl).trans z1.out; have hbl2 : b0 < w2.heap.size := Nat.lt_of_lt_of_le hbl q2.out.size; clear hb2 k2) | (refine step_append_m (by rfl) (.tmp 12) (.tmp 20) 22 (by rfl) 9 j0 _ 16 Try.underlying22 hj0 hjz hj1 hj2 rfl (W := w) (q2.out.alloc q2.out.size _) (.slice Ao m co) m _ (by simp [Act.eval]) (own2.alloc _) w.heap.size (some ⟨w2.heap.size, 0, none⟩) 1 1 ([p].map vstr) (by simp [Act.eval]) (reads_new w2 #[.string p] 9 1 1 w.heap.size rfl) (vstr_one _) (by omega) (by omega) ?_; intro A5 c5 w5 hown5 hc5 q5 st hs5 old; have f0 := ((bcell q5).1 _ _ hbl).trans z0.out; have f1 := ((bcell q5).1 _ _ hbl).trans z1.out; clear old st))
      have hsl := run_slice_from (P := Try.prog) (w := w5) 22 9 Try.underlying22 j0 hj0 1 hj1 (some ⟨b0, o0, none⟩) n' c' 2 (by omega) (by omega)
      have hR2 := hR.out.cutA (k := 2) (cap := c') (by omega) hc'
      go_wp2
      go_roundw
      case rel => exact ⟨n' - 2, c' - 2, m + 1, c5, _, A5, r, outs ++ [p], rfl, by omega, rfl, by omega, hR2, by rw [List.map_append]; exact hown5, hab2, fun s hs => h32.out s (by simp [hs]), hid_mk q5⟩
      case measure => simp [lenW]; omega
    · have hrd : Reads wr w.heap.size 9 1 A' n' (rest.map vstr) := Reads.to hR.out hb.out
      have hab2 : Hid (aboveL dB ss = outs ++ rest) := by
        have hl := hR.out.len
        rw [Hid, hab.out]
        match rest, hl with
        | [], _ => rfl
        | [_], _ => rfl
        | _ :: _ :: _, hl => simp at hl; omega
      go_wp2_with (at_builtin; refine wpl_append rfl (.tmp 22) (.tmp 23) 22 rfl 9 j0 _ 16 Try.underlying22 hj0 hjz hj1 hj2 rfl hb.out (.slice Ao m co) m _ rfl hown w.heap.size A' n' c' _ (by simp [Act.eval]) hrd (vstr_one _) (by omega) (by omega) ?_; intro A5 c5 w5 hown5 hc5 q5 st hs5)
      refine ends_ret hQ (results_tmp rfl _ _ _) rfl ?_
      refine ⟨A5, m + n', c5, rfl, hc5, ?_, q5, fun b o hbo => (hown5.lt b (by rw [hbo]; rfl)).1⟩
      rw [hab2.out]
      unfold Strs
      rw [List.map_append]
      exact hown5.reads
end Go.Proofs.Ytlnncpilgpafdaa
