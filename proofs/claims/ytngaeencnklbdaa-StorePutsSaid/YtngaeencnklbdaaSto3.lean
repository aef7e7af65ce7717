/-
  WHAT IS PROVED HERE: where a key stands in a list that rises; which keys of a store are rotten; what is got. Condition: at most 4096 items for the latter two.
-/
import Derived.Test.YtngaeencnklbdaaSto2
namespace Go.Proofs.Ytngaeencnklbdaa
open Go.RowKit

theorem isNaN_any (x : ByteArray) (w : World) : Calls Try.prog 42 #[.string x] w fun e w' => e = .returned (.bool false) ∧ w = w' := by
  have h1 : (x.toList != x.toList) = false := by simp
  have h2 : (x.toList == x.toList) = true := by simp
  refine calls_of_wpQ Try.func42 rfl ?_
  intro Q hQ
  simp only [Try.ntmps42, List.size_toArray, List.length_cons, List.length_nil, Nat.reduceAdd, Nat.reduceSub, Array.replicate_succ, Array.replicate_zero, List.push_toArray, List.append_toArray, List.nil_append, List.cons_append]
  go_wp2
  refine ends_ret hQ (results_tmp rfl _ _ _) rfl ?_
  exact ⟨rfl, rfl⟩
theorem Less_any (x y : ByteArray) (w : World) : Calls Try.prog 34 #[.string x, .string y] w fun e w' => e = .returned (.bool (sL x y)) ∧ w = w' := by
  have h1 : Op.bytesLess x.toList y.toList = sL x y := rfl
  refine calls_of_wpQ Try.func34 rfl ?_
  intro Q hQ
  simp only [Try.ntmps34, List.size_toArray, List.length_cons, List.length_nil, Nat.reduceAdd, Nat.reduceSub, Array.replicate_succ, Array.replicate_zero, List.push_toArray, List.append_toArray, List.nil_append, List.cons_append]
  go_wp2_with fail
  refine (isNaN_any x _).mono ?_
  rintro e w1 ⟨rfl, rfl⟩
  go_wp2
  refine ends_ret hQ (results_tmp rfl _ _ _) rfl ?_
  exact ⟨rfl, rfl⟩
theorem key_any (K Bd : ByteArray) (rf : Int) (w : World) : Calls Try.prog 25 #[.agg #[.string K, .string Bd, .int .i64 rf]] w fun e w' => e = .returned (.string K) ∧ Below w.heap.size w w' := by
  refine calls_of_wpQ Try.func25 rfl ?_
  intro Q hQ
  simp only [Try.ntmps25, List.size_toArray, List.length_cons, List.length_nil, Nat.reduceAdd, Nat.reduceSub, Array.replicate_succ, Array.replicate_zero, List.push_toArray, List.append_toArray, List.nil_append, List.cons_append]
  go_wp2
  refine ends_ret hQ (results_tmp rfl _ _ _) rfl ?_
  exact ⟨rfl, by go_grown⟩
/-- keys below this one stand ahead of the place p, no others -/
def Cut (is : List Itm) (key : ByteArray) (p : Nat) : Prop := p ≤ is.length ∧ (∀ (j : Nat) (i : Itm), j < p → is[j]? = some i → sL i.k key = true) ∧ ∀ (j : Nat) (i : Itm), p ≤ j → is[j]? = some i → sL i.k key = false
def Asc (is : List Itm) : Prop := ∀ (j k : Nat) (a b : Itm), j < k → is[j]? = some a → is[k]? = some b → sL a.k b.k = true
set_option maxRecDepth 100000 in
set_option maxHeartbeats 1600000 in
theorem find_any (is : List Itm) (A : Option Addr) (n cap : Nat) (ky : ByteArray) (w : World) {B : Nat} (hm : n ≤ 8796093022208) (h0 : Itms w B A n is) (hasc : Asc is) :
    Calls Try.prog 24 #[.slice A n cap, .string ky, .func (.func 25) #[] #[]] w fun e w' => ∃ p, Cut is ky p ∧ e = .returned (.tuple #[.int .i64 p, .bool (decide ((is[p]?).map (·.k) = some ky))]) ∧ Below w.heap.size w w' := by
  have hlen := hid_mk h0.len
  have h := hid_mk h0.top
  replace hasc := hid_mk hasc
  clear h0
  refine calls_of_wpQ Try.func24 rfl ?_
  intro Q hQ
  simp only [Try.ntmps24, List.size_toArray, List.length_cons, List.length_nil, Nat.reduceAdd, Nat.reduceSub, Array.replicate_succ, Array.replicate_zero, List.push_toArray, List.append_toArray, List.nil_append, List.cons_append]
  go_wp2
  go_loopw [8, 9] (fun lv hv wr => ∃ (lo hi : Nat), lv = .int .i64 lo ∧ hv = .int .i64 hi ∧ lo ≤ hi ∧ hi ≤ n ∧ Hid (∀ (j : Nat) (i : Itm), j < lo → is[j]? = some i → sL i.k ky = true) ∧ Hid (∀ (j : Nat) (i : Itm), hi ≤ j → is[j]? = some i → sL i.k ky = false) ∧ Hid (Below w.heap.size w wr)) (fun lv hv _ => (intOf hv).toNat - (intOf lv).toNat)
  case atStart =>
    refine ⟨0, n, rfl, rfl, Nat.zero_le _, Nat.le_refl _, fun j i hj _ => absurd hj (by omega), fun j i hj hi => ?_, hid_mk (Below.refl _ _)⟩
    rw [List.getElem?_eq_none (by rw [hlen.out]; exact hj)] at hi
    cases hi
  case round =>
    obtain ⟨lo, hi, rfl, rfl, hlh, hhn, hL, hH, hb⟩ := hrel
    by_cases hlt : lo < hi
    · obtain ⟨m, hm'⟩ : ∃ m, (lo + hi) / 2 = m := ⟨_, rfl⟩
      have hm1 : lo ≤ m ∧ m < hi := by omega
      obtain ⟨hm1, hm2⟩ := hm1
      have s2 : IntKind.i64.wrap ((lo : Int) + (hi : Int)) = (lo : Int) + (hi : Int) := IntWalk.i64_in _ (by omega)
      have s3 : ((lo : Int) + (hi : Int)) / 2 = (m : Int) := by omega
      have s4 : IntKind.i64.wrap (m : Int) = (m : Int) := IntWalk.i64_in _ (by omega)
      have s5 : (0 : Int) ≤ (m : Int) := by omega
      have s6 : (m : Int) < (n : Int) := by omega
      obtain ⟨b, o, i, rfl, hbl, hik, c0, c1, c2⟩ := (h.out.to hb.out).at_ (show m < n by omega)
      obtain ⟨c, hc⟩ : ∃ c, sL i.k ky = c := ⟨_, rfl⟩
      have hrise : Hid (c = true → ∀ (j : Nat) (i : Itm), j < m + 1 → is[j]? = some i → sL i.k ky = true) := by
        intro hct j i2 hj hij
        rcases Nat.lt_or_ge j m with h1 | h1
        · exact sL_trans (hasc.out j m i2 i h1 hij hik) (by rw [hc, hct])
        · obtain rfl : j = m := by omega
          rw [hik] at hij; injection hij with hij; rw [← hij, hc, hct]
      have hfall : Hid (c = false → ∀ (j : Nat) (i : Itm), m ≤ j → is[j]? = some i → sL i.k ky = false) := by
        intro hcf j i2 hj hij
        rcases Nat.lt_or_ge m j with h1 | h1
        · cases hx : sL i2.k ky
          · rfl
          · have h2 := sL_trans (hasc.out m j i i2 h1 hik hij) hx
            rw [hc, hcf] at h2; cases h2
        · obtain rfl : j = m := by omega
          rw [hik] at hij; injection hij with hij; rw [← hij, hc, hcf]
      obtain ⟨K, Bd, rf⟩ := i
      dsimp only at c0 c1 c2 hc
      replace hm' := hid_mk hm'
      replace hc := hid_mk hc
      replace hik := hid_mk hik
      cases c
      · have hf := hfall
        clear hrise hfall
        go_wp2_with (first | (go_at_call 25; refine (key_any K Bd rf _).mono ?_; rintro e w2 ⟨rfl, hb2⟩; have q2 := hid_mk (after (w := w) hb2 hb.out).1; clear hb2) | (go_at_call 34; refine (Less_any K ky _).mono ?_; rw [hc.out]; rintro e w3 ⟨rfl, rfl⟩))
        go_roundw
        case rel => exact ⟨lo, m, rfl, rfl, hm1, by omega, hL, hf.out trivial, q2⟩
        case measure => simp [intOf]; omega
      · have hf := hrise
        clear hrise hfall
        go_wp2_with (first | (go_at_call 25; refine (key_any K Bd rf _).mono ?_; rintro e w2 ⟨rfl, hb2⟩; have q2 := hid_mk (after (w := w) hb2 hb.out).1; clear hb2) | (go_at_call 34; refine (Less_any K ky _).mono ?_; rw [hc.out]; rintro e w3 ⟨rfl, rfl⟩))
        go_roundw
        case rel => exact ⟨m + 1, hi, by go_num, rfl, by omega, hhn, hf.out trivial, hH, q2⟩
        case measure => simp [intOf]; omega
    · obtain rfl : lo = hi := by omega
      have hcut : Hid (Cut is ky lo) := ⟨by rw [hlen.out]; exact hhn, hL.out, hH.out⟩
      by_cases hln : lo < n
      · obtain ⟨b, o, i, rfl, hbl, hik, c0, c1, c2⟩ := (h.out.to hb.out).at_ hln
        obtain ⟨K, Bd, rf⟩ := i
        dsimp only at c0 c1 c2
        have hr : Hid (decide ((is[lo]?).map (·.k) = some ky) = (K.toList == ky.toList)) := by rw [Hid, hik, str_eq]; simp
        replace hik := hid_mk hik
        have s5 : (0 : Int) ≤ (lo : Int) := by omega
        have s6 : (lo : Int) < (n : Int) := by omega
        go_wp2_with (go_at_call 25; refine (key_any K Bd rf _).mono ?_; rintro e w2 ⟨rfl, hb2⟩; have q2 := hid_mk (after (w := w) hb2 hb.out).1; clear hb2)
        refine ends_ret hQ (results_tmp2 rfl _ _ _) rfl ?_
        exact ⟨lo, hcut.out, by rw [hr.out]; rfl, q2.out⟩
      · have hr : Hid (decide ((is[lo]?).map (·.k) = some ky) = false) := by rw [Hid, List.getElem?_eq_none (by rw [hlen.out]; omega)]; rfl
        go_wp2
        refine ends_ret hQ (results_tmp2 rfl _ _ _) rfl ?_
        exact ⟨lo, hcut.out, by rw [hr.out]; rfl, hb.out⟩
theorem okItms_all : ∀ (is : List Itm) (p : Option ByteArray), okItms p is = true → (∀ i ∈ is, itmOk i = true) ∧ (∀ q, p = some q → ∀ i ∈ is, sL q i.k = true) ∧ Asc is
  | [], _, _ => ⟨by simp, by simp, by intro j k a b _ h; simp at h⟩
  | x :: is, p, h => by
    rw [okItms_cons, Bool.and_eq_true, Bool.and_eq_true] at h
    obtain ⟨⟨h1, h2⟩, h3⟩ := h
    obtain ⟨a1, a2, a3⟩ := okItms_all is (some x.k) h3
    refine ⟨?_, ?_, ?_⟩
    · intro i hi
      rcases List.mem_cons.1 hi with rfl | hi
      · exact h1
      · exact a1 i hi
    · rintro q rfl i hi
      rcases List.mem_cons.1 hi with rfl | hi
      · exact h2
      · exact sL_trans h2 (a2 _ rfl i hi)
    · intro j k a b hjk ha hb
      cases k with
      | zero => omega
      | succ k =>
        rw [List.getElem?_cons_succ] at hb
        cases j with
        | zero =>
          rw [List.getElem?_cons_zero] at ha
          injection ha with ha
          subst ha
          exact a2 _ rfl b (List.mem_of_getElem? hb)
        | succ j =>
          rw [List.getElem?_cons_succ] at ha
          exact a3 j k a b (by omega) ha hb
theorem rightI_all {is : List Itm} (h : rightI is = true) : is.length ≤ 4096 ∧ (∀ i ∈ is, itmOk i = true) ∧ Asc is := by
  unfold rightI at h
  rw [Bool.and_eq_true] at h
  have h2 := okItms_all is none h.2
  exact ⟨of_decide_eq_true h.1, h2.1, h2.2.2⟩
theorem itmOk_size {i : Itm} (h : itmOk i = true) : i.k.size = 32 ∧ i.b.size ≤ 512 ∧ 0 ≤ i.r ∧ i.r ≤ 1073741824 := by
  unfold itmOk at h
  simp only [Bool.and_eq_true, decide_eq_true_eq] at h
  omega
/-- the place, as the reference tells it, where a list rises -/
theorem atF_spec (key : ByteArray) : ∀ (l : List Itm) (k : Nat), (∀ i ∈ l, i.k ≠ key) → atF key l k = -1
  | [], _, _ => rfl
  | x :: l, k, h => by
    rw [atF, if_neg (h x (by simp))]
    exact atF_spec key l (k + 1) fun i hi => h i (by simp [hi])
theorem atF_hit (key : ByteArray) : ∀ (l : List Itm) (k p : Nat) (x : Itm), l[p]? = some x → x.k = key → (∀ j i, j < p → l[j]? = some i → i.k ≠ key) → atF key l k = ((k + p : Nat) : Int)
  | [], _, _, _, h, _, _ => by simp at h
  | y :: l, k, 0, x, h, hx, _ => by
    rw [List.getElem?_cons_zero] at h
    injection h with h
    subst h
    rw [atF, if_pos hx]; rfl
  | y :: l, k, p + 1, x, h, hx, hl => by
    rw [atF, if_neg (hl 0 y (by omega) rfl), atF_hit key l (k + 1) p x (by simpa using h) hx (fun j i hj hji => hl (j + 1) i (by omega) (by simpa using hji))]
    congr 1
    omega
theorem cut_at {is : List Itm} {key : ByteArray} {p : Nat} (h : Cut is key p) (hasc : Asc is) : atI is key = if (is[p]?).map (·.k) = some key then (p : Int) else -1 := by
  unfold atI
  split
  · rename_i he
    obtain ⟨x, hx, hk⟩ := Option.map_eq_some_iff.1 he
    rw [atF_hit key is 0 p x hx hk (fun j i hj hji => sL_ne (h.2.1 j i hj hji)), Nat.zero_add]
  · rename_i he
    apply atF_spec
    intro i hi hk
    obtain ⟨j, hj⟩ := List.mem_iff_getElem?.1 hi
    rcases Nat.lt_trichotomy j p with h1 | h1 | h1
    · exact sL_ne (h.2.1 j i h1 hj) hk
    · subst h1
      exact he (by rw [hj]; simp [hk])
    · have hpl : p < is.length := by
        have := (List.getElem?_eq_some_iff.1 hj).1
        omega
      have hp := List.getElem?_eq_getElem hpl
      have h2 := hasc p j _ i h1 hp hj
      have h3 := h.2.2 p _ (Nat.le_refl _) hp
      rw [hk] at h2
      rw [h2] at h3
      cases h3
def rotKs (is : List Itm) : List ByteArray := (is.filter rotB).map (·.k)
theorem rotKs_take {is : List Itm} {k : Nat} {i : Itm} (h : is[k]? = some i) : rotKs (is.take (k + 1)) = rotKs (is.take k) ++ (if rotB i then [i.k] else []) := by
  unfold rotKs
  rw [List.take_add_one, h, List.filter_append, List.map_append]
  congr 1
  cases hr : rotB i <;> simp [hr]
def RetS (w : World) (ss : List ByteArray) (e : Ending) (w' : World) : Prop := ∃ A n c, e = .returned (.slice A n c) ∧ n ≤ c ∧ Strs w' w.heap.size A n ss ∧ Below w.heap.size w w'
set_option maxHeartbeats 1600000 in
theorem Rotten_any (is : List Itm) (A : Option Addr) (n cap : Nat) (w : World) {B : Nat} (hm : n ≤ 8796093022208) (h0 : Itms w B A n is) :
    Calls Try.prog 16 #[.agg #[.slice A n cap]] w (RetS w (if rightI is then rotKs is else [])) := by
  obtain ⟨j0, hj0, hjz, hj1, hj2⟩ := info_parts16 strJ
  have hlen := hid_mk h0.len
  have h := hid_mk h0.top
  have hb0 : Hid (Below w.heap.size w (w.alloc (.cells #[.slice A n cap] 24))) := (Below.refl _ w).alloc (Nat.le_refl _) _
  have hB0 : Hid (Blk (w.alloc (.cells #[.slice A n cap] 24)) w.heap.size 24 #[.slice A n cap]) := Blk.new w 24 #[.slice A n cap]
  have h1 : Itms (w.alloc (.cells #[.slice A n cap] 24)) w.heap.size A n is := h.out.to hb0.out
  clear h0
  cases hr : rightI is
  · have hR : Hid ((if false = true then rotKs is else []) = ([] : List ByteArray)) := rfl
    replace hr := hid_mk hr
    refine calls_of_wpQ Try.func16 rfl ?_
    intro Q hQ
    simp only [Try.ntmps16, List.size_toArray, List.length_cons, List.length_nil, Nat.reduceAdd, Nat.reduceSub, Array.replicate_succ, Array.replicate_zero, List.push_toArray, List.append_toArray, List.nil_append, List.cons_append]
    go_wp2_with fail
    refine (Right_any is A n cap _ hm h1).mono ?_
    rw [hr.out]
    rintro e w1 ⟨rfl, hb1⟩
    have q1 := hid_mk (after (w := w) hb1 hb0.out).1
    clear hb1
    go_wp2
    refine ends_ret hQ (results_tmp rfl _ _ _) rfl ?_
    exact ⟨none, 0, 0, rfl, Nat.le_refl _, Reads.none_, q1.out⟩
  · obtain ⟨hl4, hok, hasc⟩ := rightI_all hr
    have hn4 : n ≤ 4096 := by rw [← hlen.out]; exact hl4
    have hbz : Hid (∀ i ∈ is, i.b.size ≤ 137438953472) := fun i hi => by have := itmOk_size (hok i hi); omega
    have hR : Hid ((if true = true then rotKs is else []) = rotKs is) := rfl
    replace hr := hid_mk hr
    clear hl4 hok hasc
    refine calls_of_wpQ Try.func16 rfl ?_
    intro Q hQ
    simp only [Try.ntmps16, List.size_toArray, List.length_cons, List.length_nil, Nat.reduceAdd, Nat.reduceSub, Array.replicate_succ, Array.replicate_zero, List.push_toArray, List.append_toArray, List.nil_append, List.cons_append]
    go_wp2_with fail
    refine (Right_any is A n cap _ hm h1).mono ?_
    rw [hr.out]
    rintro e w1 ⟨rfl, hb1⟩
    have q1 := hid_mk (after (w := w) hb1 hb0.out).1
    have hB1 := hB0.out.keep hb1
    have cB : w1.cell? ⟨w.heap.size, 0, none⟩ = some (.slice A n cap) := hB1.cell 0
    have lB := hB1.lt
    have own0 : OwnM w1 w.heap.size 9 (.slice none 0 0) 0 ((rotKs (is.take 0)).map vstr) := OwnM.nil
    clear hb1 hB1
    go_wp2
    go_loopw [3, 12] (fun o iv wr => ∃ (k m co : Nat) (Ao : Option Addr), o = .slice Ao m co ∧ iv = .int .i64 k ∧ k ≤ n ∧ m ≤ k ∧ m ≤ co ∧ OwnM wr w.heap.size 9 (.slice Ao m co) m ((rotKs (is.take k)).map vstr) ∧ Hid (Below w.heap.size w wr)) (fun _ iv _ => n - (intOf iv).toNat)
    case atStart => exact ⟨0, 0, 0, none, rfl, rfl, Nat.zero_le _, Nat.le_refl _, Nat.le_refl _, own0, q1⟩
    case round =>
      clear own0 q1 cB lB hB0
      obtain ⟨k, m, co, Ao, rfl, rfl, hk, hmk, hmo, hown, hb⟩ := hrel
      by_cases hlt : k < n
      · obtain ⟨b, o, i, rfl, hbl, hik, c0, c1, c2⟩ := (h.out.to hb.out).at_ hlt
        have htk := hid_mk (rotKs_take hik)
        have hbs := hbz.out i (List.mem_of_getElem? hik)
        have hrot := rotten_any i (wr.alloc (.cells #[.string i.k, .string i.b, .int .i64 i.r] 35)) hbs
        obtain ⟨K, Bd, rf⟩ := i
        dsimp only at c0 c1 c2 hrot
        unfold itmV at hrot
        dsimp only at hrot
        obtain ⟨rb, hrb⟩ : ∃ b, rotB ⟨K, Bd, rf⟩ = b := ⟨_, rfl⟩
        rw [hrb] at hrot htk
        have hb2 : Hid (Below w.heap.size w (wr.alloc (.cells #[.string K, .string Bd, .int .i64 rf] 35))) := hb.out.alloc hb.out.size _
        have hN2 : Hid (Blk (wr.alloc (.cells #[.string K, .string Bd, .int .i64 rf] 35)) wr.heap.size 35 #[.string K, .string Bd, .int .i64 rf]) := Blk.new wr 35 #[.string K, .string Bd, .int .i64 rf]
        have own2 := hown.alloc (.cells #[.string K, .string Bd, .int .i64 rf] 35)
        replace hik := hid_mk hik
        replace hrb := hid_mk hrb
        have k0 : (0 : Int) ≤ k := by omega
        have k1 : (k : Int) < n := by omega
        cases rb
        · have hown3 : rotKs (is.take (k + 1)) = rotKs (is.take k) := by rw [htk.out]; simp
          replace hown3 := hid_mk hown3
          go_wp2_with fail
          refine hrot.mono ?_
          rintro e w3 ⟨rfl, hb3⟩
          have q3 := hid_mk (after (w := w) hb3 hb2.out).1
          have own3 := own2.below hb3
          clear hb3
          go_wp2
          go_roundw
          case rel => exact ⟨k + 1, m, co, Ao, rfl, by go_num, by omega, by omega, hmo, by rw [hown3.out]; exact own3, q3⟩
          case measure => simp [intOf]; omega
        · have hown3 : rotKs (is.take (k + 1)) = rotKs (is.take k) ++ [K] := by rw [htk.out]; simp
          replace hown3 := hid_mk hown3
          go_wp2_with fail
          refine hrot.mono ?_
          rintro e w3 ⟨rfl, hb3⟩
          have q3 := hid_mk (after (w := w) hb3 hb2.out).1
          have own3 := own2.below hb3
          have hN3 := hN2.out.keep hb3
          have d0 : w3.cell? ⟨wr.heap.size, 0, none⟩ = some (.string K) := hN3.cell 0
          have dl := hN3.lt
          clear hb3
          go_wp2_with (at_builtin; refine wpl_append_new rfl (.tmp 18) (.tmp 21) 32 rfl 9 j0 _ 16 Try.underlying32 hj0 hjz hj1 hj2 rfl q3.out (.slice Ao m co) m _ rfl own3 ([K].map vstr) 1 1 rfl _ rfl (by simp [Act.eval]) (vstr_one _) (by omega) (by omega) ?_; intro A5 c5 w5 hown5 hc5 q5 st hs5; rw [← List.map_append] at hown5)
          go_roundw
          case rel => exact ⟨k + 1, m + 1, c5, A5, rfl, by go_num, by omega, by omega, hc5, by rw [hown3.out]; exact hown5, hid_mk q5⟩
          case measure => simp [intOf]; omega
      · obtain rfl : n = k := by omega
        have htk : Hid (is.take n = is) := List.take_of_length_le (by rw [hlen.out]; omega)
        go_wp2
        refine ends_ret hQ (results_tmp rfl _ _ _) rfl ?_
        refine ⟨Ao, m, co, rfl, hmo, ?_, hb.out⟩
        rw [hR.out]
        have h9 := hown
        rw [htk.out] at h9
        exact h9.reads
end Go.Proofs.Ytngaeencnklbdaa
