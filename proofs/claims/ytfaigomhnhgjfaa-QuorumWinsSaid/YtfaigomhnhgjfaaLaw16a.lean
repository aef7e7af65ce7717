/-
  WHAT IS PROVED HERE: the walks of the laws QuorumWins and QuorumMeets: each returns true and writes nothing that was there. Conditions: the slices hold ints and are of at most 2^47 elements.
-/
import Derived.Test.YtfaigomhnhgjfaaQuorum2
import Derived.Test.YtfaigomhnhgjfaaQuorumP
namespace Go.Proofs.Ytfaigomhnhgjfaa
open Go.RowKit

theorem alive_any (w : World) : Calls Try.prog 6 #[] w fun e w' => e = .returned (.bool true) ∧ Below w.heap.size w w' := by
  have hb : Below w.heap.size w (w.alloc (.cells #[.int .i64 1] 3)) := (Below.refl _ w).alloc (Nat.le_refl _) _
  have hI : Ints (w.alloc (.cells #[.int .i64 1] 3)) (w.heap.size + 1) (some ⟨w.heap.size, 0, none⟩) 1 [1] := by
    refine ⟨rfl, fun _ => ⟨w.heap.size, 0, rfl, Nat.lt_succ_self _, ?_⟩⟩
    intro j u hu
    match j, hu with
    | 0, hu => simp [vint] at hu; subst hu; exact (cell_new_l w _ _).1
  go_enter Try.func6, Try.ntmps6
  go_wp2_with (go_at_call 14; refine (Right_any _ _ _ [1] _ _ (by omega) hI).mono ?_; rintro e w' ⟨rfl, rfl⟩)
  go_ret
  exact ⟨ret_bool (by rfl), hb⟩
set_option maxHeartbeats 400000 in
theorem LawWins_any (a : Option Addr) (len cap : Nat) (xs : List Int) (a' : Option Addr) (len' cap' : Nat) (ys : List Int) (w : World) (hm : len ≤ 140737488355328) (hm' : len' ≤ 140737488355328)
    (h : Ints w w.heap.size a len xs) (h' : Ints w w.heap.size a' len' ys) :
    Calls Try.prog 3 #[.slice a len cap, .slice a' len' cap'] w fun e w' => e = .returned (.bool true) ∧ Below w.heap.size w w' := by
  by_cases h1 : 100 < len'
  · go_enter Try.func3, Try.ntmps3
    go_wp2
    go_ret
    exact ⟨rfl, Below.refl _ _⟩
  by_cases h2 : 100 < len
  · go_enter Try.func3, Try.ntmps3
    go_wp2
    go_ret
    exact ⟨rfl, Below.refl _ _⟩
  have hl := hid_mk h.len
  have hl' := hid_mk h'.len
  go_enter Try.func3, Try.ntmps3
  go_wp2_with fail
  refine (alive_any _).mono ?_
  rintro e w1 ⟨rfl, hb1⟩
  have i1 := (h.below hb1).more hb1.size
  have i1' := (h'.below hb1).more hb1.size
  go_wp2_with fail
  refine (Wins_any _ _ _ xs _ _ _ ys _ hm hm' i1 i1').mono ?_
  rintro e w2 ⟨rfl, hb2⟩
  have i2 := (i1.below hb2).more hb2.size
  have i2' := (i1'.below hb2).more hb2.size
  go_wp2_with fail
  refine (refWins_any _ _ _ xs _ _ _ ys _ _ hm hm' i2 i2').mono ?_
  rintro e w3 ⟨rfl, rfl⟩
  go_wp2_with fail
  refine (Next_any _ _ _ xs _ _ _ ys _ hm hm' i2 i2').mono ?_
  rw [← hl.out, ← hl'.out, next_eq, hl.out, hl'.out]
  rintro e w3 ⟨rfl, hb3⟩
  go_wp2_with fail
  refine (refNext_any _ _ _ xs _ _ _ ys _ _ hm hm' (i2.below hb3) (i2'.below hb3)).mono ?_
  rintro e w4 ⟨rfl, rfl⟩
  go_wp2
  go_ret
  exact ⟨ret_bool (by simp), hb1.trans ((hb2.mono hb1.size).trans (hb3.mono (Nat.le_trans hb1.size hb2.size)))⟩
/-- equal, member by member -/
def sameL : List Int → List Int → Bool
  | x :: xs, y :: ys => if x != y then false else sameL xs ys
  | _, _ => true
theorem sameL_eq : ∀ {xs ys : List Int}, xs.length = ys.length → sameL xs ys = decide (xs = ys)
  | [], [], _ => rfl
  | x :: xs, y :: ys, h => by
    have ih := sameL_eq (xs := xs) (ys := ys) (by simpa using h)
    unfold sameL
    by_cases e : x = y
    · subst e; simp [ih]
    · simp [e]
set_option maxHeartbeats 400000 in
theorem Ints_any (a : Option Addr) (len cap : Nat) (xs : List Int) (a' : Option Addr) (len' cap' : Nat) (ys : List Int) (w : World) (hm : len ≤ 140737488355328) (hm' : len' ≤ 140737488355328)
    (h : Ints w w.heap.size a len xs) (h' : Ints w w.heap.size a' len' ys) :
    Calls Try.prog 11 #[.slice a len cap, .slice a' len' cap'] w fun e w' => e = .returned (.bool (decide (xs = ys))) ∧ Below w.heap.size w w' := by
  have hl := hid_mk h.len
  have hl' := hid_mk h'.len
  by_cases e : len = len'
  · subst e
    go_enter Try.func11, Try.ntmps11
    go_wp2
    go_loopw [13] (fun i wr => ∃ k : Nat, k ≤ len ∧ i = .int .i64 k ∧ Below w.heap.size w wr ∧ Hid (sameL xs ys = sameL (xs.drop k) (ys.drop k))) (fun i _ => len - (intOf i).toNat)
    case atStart => exact ⟨0, Nat.zero_le _, rfl, Below.refl _ _, by simp [Hid]⟩
    case round =>
      obtain ⟨k, hk, rfl, hb, hn⟩ := hrel
      by_cases hlt : k < len
      · obtain ⟨b, o, x, rfl, _, hd, hc⟩ := (h.below hb).at_ hlt
        obtain ⟨b', o', y, rfl, _, hd', hc'⟩ := (h'.below hb).at_ hlt
        have hki : (k : Int) < len := by omega
        have hk0 : (0 : Int) ≤ k := by omega
        by_cases ht : x = y
        · have ht1 : (x != y) = false := by simp [ht]
          have ht := hid_mk ht
          go_wp2
          go_quiet (fail)
          all_goals go_wp2
          all_goals
            go_roundw
            case rel => exact ⟨k + 1, by omega, by go_num, below_drewN hb _, by rw [Hid, hn.out, hd.out, hd'.out]; simp [sameL, ht.out]⟩
            case measure => simp [intOf]; omega
        · have ht1 : (x != y) = true := by simp [ht]
          have ht := hid_mk ht
          go_wp2
          go_quiet (fail)
          all_goals go_wp2
          all_goals
            go_ret
            exact ⟨ret_bool (by rw [← sameL_eq (by rw [hl.out, hl'.out]), hn.out, hd.out, hd'.out]; simp [sameL, ht.out]), below_drewN hb _⟩
      · have he := hid_mk (h.end_ hk hlt)
        go_wp2
        go_ret
        exact ⟨ret_bool (by rw [← sameL_eq (by rw [hl.out, hl'.out]), hn.out, he.out]; simp [sameL]), hb⟩
  · have e1 : ((len : Int) != (len' : Int)) = true := by simp; omega
    have e2 : ((len : Nat) != (len' : Nat)) = true := by simp; omega
    go_enter Try.func11, Try.ntmps11
    go_wp2
    go_ret
    exact ⟨ret_bool (by symm; simp only [decide_eq_false_iff_not]; rintro rfl; exact e (by rw [← hl.out, hl'.out])), Below.refl _ _⟩
def in3 (x : Int) : List Int → Bool
  | [] => false
  | v :: vs => if v == x then true else in3 x vs
def in2 (V : List Int) (x : Int) : List Int → Bool
  | [] => false
  | y :: ys => if (x == y) && in3 x V then true else in2 V x ys
def in1 (V b : List Int) : List Int → Bool
  | [] => false
  | x :: xs => if in2 V x b then true else in1 V b xs
theorem in3_of {x : Int} : ∀ {V : List Int}, x ∈ V → in3 x V = true
  | v :: vs, h => by
    unfold in3
    by_cases e : v = x
    · simp [e]
    · rcases List.mem_cons.1 h with h | h
      · exact absurd h.symm e
      · simp [e, in3_of h]
theorem in2_of {V : List Int} {x : Int} (hx : x ∈ V) : ∀ {b : List Int}, x ∈ b → in2 V x b = true
  | y :: ys, h => by
    unfold in2
    by_cases e : x = y
    · simp [e]; left; rw [← e]; exact in3_of hx
    · rcases List.mem_cons.1 h with h | h
      · exact absurd h e
      · simp [e, in2_of hx h]
theorem in1_of {V b : List Int} {x : Int} (hx : x ∈ V) (hb : x ∈ b) : ∀ {a : List Int}, x ∈ a → in1 V b a = true
  | y :: ys, h => by
    unfold in1
    rcases List.mem_cons.1 h with h | h
    · subst h; simp [in2_of hx hb]
    · by_cases e : in2 V y b <;> simp [e, in1_of hx hb h]

/-- the law's three loops find whom two majorities have in common -/
theorem meets_true {V N a b : List Int} (hwa : winsL V a = true) (hwb : winsL N b = true) (hs : V = N ∨ nextL V N = true) : in1 V b a = true := by
  unfold winsL at hwa hwb
  simp only [Bool.and_eq_true, decide_eq_true_eq] at hwa hwb
  have oV := right_ones hwa.1
  have oN := right_ones hwb.1
  have hd : (V.length - cntL N V) + (N.length - cntL V N) ≤ 1 := by
    rcases hs with rfl | hs
    · have h2 : cntL V V = V.length := by
        have : ∀ l : List Int, (∀ x ∈ l, x ∈ V) → cntL V l = l.length := by
          intro l
          induction l with
          | nil => intro _; rfl
          | cons y l ih =>
            intro h
            have h1 : inL y V = true := (inL_iff _ _).2 (h y (by simp))
            simp only [cntL, h1, ih fun x hx => h x (by simp [hx])]
            simp; omega
        exact this V fun x hx => hx
      omega
    · unfold nextL at hs
      simp only [Bool.and_eq_true, decide_eq_true_eq] at hs
      omega
  obtain ⟨v, h1, h2, h3⟩ := majorities_meet oV oN hd hwa.2 hwb.2
  exact in1_of h1 h3 h2

set_option maxHeartbeats 1600000 in
theorem LawMeets_any (a : Option Addr) (len cap : Nat) (V : List Int) (a1 : Option Addr) (len1 cap1 : Nat) (N : List Int) (a2 : Option Addr) (len2 cap2 : Nat) (aa : List Int) (a3 : Option Addr) (len3 cap3 : Nat) (bb : List Int) (w : World)
    (hm : len ≤ 140737488355328) (hm1 : len1 ≤ 140737488355328)
    (h : Ints w w.heap.size a len V) (h1 : Ints w w.heap.size a1 len1 N) (h2 : Ints w w.heap.size a2 len2 aa) (h3 : Ints w w.heap.size a3 len3 bb) :
    Calls Try.prog 4 #[.slice a len cap, .slice a1 len1 cap1, .slice a2 len2 cap2, .slice a3 len3 cap3] w fun e w' => e = .returned (.bool true) ∧ Below w.heap.size w w' := by
  by_cases g2 : 100 < len2
  · go_enter Try.func4, Try.ntmps4
    go_wp2_with (go_at_call 6; refine (alive_any _).mono ?_; rintro e w1 ⟨rfl, hb1⟩)
    go_ret
    exact ⟨rfl, hb1⟩
  by_cases g3 : 100 < len3
  · go_enter Try.func4, Try.ntmps4
    go_wp2_with (go_at_call 6; refine (alive_any _).mono ?_; rintro e w1 ⟨rfl, hb1⟩)
    go_ret
    exact ⟨rfl, hb1⟩
  go_enter Try.func4, Try.ntmps4
  go_wp2_with fail
  refine (alive_any _).mono ?_
  rintro e w1 ⟨rfl, hb1⟩
  have i1 := (h.below hb1).more hb1.size
  have i1' := (h1.below hb1).more hb1.size
  go_wp2_with fail
  refine (Ints_any _ _ _ V _ _ _ N _ hm hm1 i1 i1').mono ?_
  rintro e w2 ⟨rfl, hb2⟩
  have j0 := hb1.trans (hb2.mono hb1.size)
  have i2 := (h.below j0).more j0.size
  have k2 := (h2.below j0).more j0.size
  have i2' := (h1.below j0).more j0.size
  have k2' := (h3.below j0).more j0.size
  obtain ⟨same, hsame⟩ : ∃ s, decide (V = N) = s := ⟨_, rfl⟩
  rw [hsame]
  have hsame := hid_mk hsame
  clear i1 i1' hb1 hb2
  cases hwa : winsL V aa
  · have hwa := hid_mk hwa
    go_wp2_with fail
    refine (Wins_any _ _ _ V _ _ _ aa _ hm (by omega) i2 k2).mono ?_
    rw [hwa.out]
    rintro e w3 ⟨rfl, hb3⟩
    go_wp2
    go_ret
    exact ⟨rfl, j0.trans (hb3.mono j0.size)⟩
  have hwa := hid_mk hwa
  go_wp2_with fail
  refine (Wins_any _ _ _ V _ _ _ aa _ hm (by omega) i2 k2).mono ?_
  rw [hwa.out]
  rintro e w3 ⟨rfl, hb3⟩
  have j3 := j0.trans (hb3.mono j0.size)
  have i3 := (h.below j3).more j3.size
  have i3' := (h1.below j3).more j3.size
  have k3' := (h3.below j3).more j3.size
  clear i2 k2 i2' k2' hb3
  cases hwb : winsL N bb
  · have hwb := hid_mk hwb
    go_wp2_with fail
    refine (Wins_any _ _ _ N _ _ _ bb _ hm1 (by omega) i3' k3').mono ?_
    rw [hwb.out]
    rintro e w4 ⟨rfl, hb4⟩
    go_wp2
    go_ret
    exact ⟨rfl, j3.trans (hb4.mono j3.size)⟩
  have hwb := hid_mk hwb
  go_wp2_with fail
  refine (Wins_any _ _ _ N _ _ _ bb _ hm1 (by omega) i3' k3').mono ?_
  rw [hwb.out]
  rintro e w4 ⟨rfl, hb4⟩
  have j4 := j3.trans (hb4.mono j3.size)
  clear i3 i3' k3' hb4
  have hV := (h.below j4).more j4.size
  have hN := (h1.below j4).more j4.size
  cases same
  case' false =>
    cases hnx : nextL V N
    · have hnx := hid_mk hnx
      have hl := hid_mk h.len
      have hl1 := hid_mk h1.len
      go_wp2_with fail
      refine (Next_any _ _ _ V _ _ _ N _ hm hm1 hV hN).mono ?_
      rw [← hl.out, ← hl1.out, next_eq, hl.out, hl1.out, hnx.out]
      rintro e w5 ⟨rfl, hb5⟩
      go_wp2
      go_ret
      exact ⟨rfl, j4.trans (hb5.mono j4.size)⟩
  case' false =>
    have hin := hid_mk (meets_true hwa.out hwb.out (.inr hnx))
    have hnx := hid_mk hnx
    have hl := hid_mk h.len
    have hl1 := hid_mk h1.len
    go_wp2_with fail
    refine (Next_any _ _ _ V _ _ _ N _ hm hm1 hV hN).mono ?_
    rw [← hl.out, ← hl1.out, next_eq, hl.out, hl1.out, hnx.out]
    rintro e w5 ⟨rfl, hb5⟩
    have j5 := j4.trans (hb5.mono j4.size)
    clear hb5
    go_wp2
  case' true =>
    have hin := hid_mk (meets_true hwa.out hwb.out (.inl (of_decide_eq_true hsame.out)))
    have j5 := j4
    go_wp2
  all_goals
    have c0 := h.below j5
    have c2 := h2.below j5
    have c3 := h3.below j5
    clear h h1 h2 h3 hV hN j4 hwa hwb hsame j3 j0
    go_loop [54] (fun i => ∃ k : Nat, k ≤ len2 ∧ i = .int .i64 k ∧ Hid (in1 V bb aa = in1 V bb (aa.drop k))) (fun i => len2 - (intOf i).toNat)
    case atStart => exact ⟨0, Nat.zero_le _, rfl, by simp [Hid]⟩
    case round =>
      obtain ⟨k, hk, rfl, hn⟩ := hrel
      by_cases hlt : k < len2
      · obtain ⟨b, o, x, rfl, _, hd, hc⟩ := c2.at_ hlt
        go_wp2
        go_loop [60] (fun i => ∃ k : Nat, k ≤ len3 ∧ i = .int .i64 k ∧ Hid (in2 V x bb = in2 V x (bb.drop k))) (fun i => len3 - (intOf i).toNat)
        case atStart => exact ⟨0, Nat.zero_le _, rfl, by simp [Hid]⟩
        case round =>
          obtain ⟨k', hk', rfl, hn'⟩ := hrel
          by_cases hlt' : k' < len3
          · obtain ⟨b', o', y, rfl, _, hd', hc'⟩ := c3.at_ hlt'
            by_cases hxy : x = y
            · subst hxy
              go_wp2
              go_loop [69] (fun i => ∃ k : Nat, k ≤ len ∧ i = .int .i64 k ∧ Hid (in3 x V = in3 x (V.drop k))) (fun i => len - (intOf i).toNat)
              case atStart => exact ⟨0, Nat.zero_le _, rfl, by simp [Hid]⟩
              case round =>
                obtain ⟨k'', hk'', rfl, hn''⟩ := hrel
                by_cases hlt'' : k'' < len
                · obtain ⟨b'', o'', v, rfl, _, hd'', hc''⟩ := c0.at_ hlt''
                  by_cases hvx : v = x
                  · have hvx1 : (v == x) = true := by simp [hvx]
                    have hvx := hid_mk hvx
                    go_wp2
                    go_ret
                    exact ⟨rfl, j5⟩
                  · have hvx1 : (v == x) = false := by simp [hvx]
                    have hvx := hid_mk hvx
                    go_wp2
                    go_round
                    case rel => exact ⟨k'' + 1, by omega, by go_num, by rw [Hid, hn''.out, hd''.out]; simp [in3, hvx.out]⟩
                    case measure => simp [intOf]; omega
                · have he'' := hid_mk (c0.end_ hk'' hlt'')
                  have hno : in3 x V = false := by rw [hn''.out, he''.out]; rfl
                  have hno := hid_mk hno
                  go_wp2
                  go_round
                  case rel => exact ⟨k' + 1, by omega, by go_num, by rw [Hid, hn'.out, hd'.out]; simp [in2, hno.out]⟩
                  case measure => simp [intOf]; omega
            · have hxy1 : (x == y) = false := by simp [hxy]
              have hxy := hid_mk hxy
              go_wp2
              go_round
              case rel => exact ⟨k' + 1, by omega, by go_num, by rw [Hid, hn'.out, hd'.out]; simp [in2, hxy.out]⟩
              case measure => simp [intOf]; omega
          · have he' := hid_mk (c3.end_ hk' hlt')
            go_wp2
            go_round
            case rel => exact ⟨k + 1, by omega, by go_num, by rw [Hid, hn.out, hd.out, in1, hn'.out, he'.out]; simp [in2]⟩
            case measure => simp [intOf]; omega
      · have he := hid_mk (c2.end_ hk hlt)
        have hcon : False := by have := hin.out; rw [hn.out, he.out] at this; simp [in1] at this
        exact hcon.elim
theorem LawWins_walk (a0 : Option Addr) (len0 cap0 : Nat) (z0 : List Int) {w : World} (i0 : Ints w w.heap.size a0 len0 z0) (_lc0 : len0 ≤ cap0) (hs0 : cap0 * 8 ≤ 140737488351232) (_b0 : ∀ z ∈ z0, -9223372036854775808 ≤ z ∧ z ≤ 9223372036854775807)
    (a1 : Option Addr) (len1 cap1 : Nat) (z1 : List Int) (i1 : Ints w w.heap.size a1 len1 z1) (_lc1 : len1 ≤ cap1) (hs1 : cap1 * 8 ≤ 140737488351232) (_b1 : ∀ z ∈ z1, -9223372036854775808 ≤ z ∧ z ≤ 9223372036854775807) :
    Calls Try.prog 3 #[.slice a0 len0 cap0, .slice a1 len1 cap1] w fun e w' => e = .returned (.bool true) ∧ Below w.heap.size w w' :=
  LawWins_any _ _ _ _ _ _ _ _ _ (by omega) (by omega) i0 i1
theorem LawMeets_walk (a0 : Option Addr) (len0 cap0 : Nat) (z0 : List Int) {w : World} (i0 : Ints w w.heap.size a0 len0 z0) (_lc0 : len0 ≤ cap0) (hs0 : cap0 * 8 ≤ 140737488351232) (_b0 : ∀ z ∈ z0, -9223372036854775808 ≤ z ∧ z ≤ 9223372036854775807)
    (a1 : Option Addr) (len1 cap1 : Nat) (z1 : List Int) (i1 : Ints w w.heap.size a1 len1 z1) (_lc1 : len1 ≤ cap1) (hs1 : cap1 * 8 ≤ 140737488351232) (_b1 : ∀ z ∈ z1, -9223372036854775808 ≤ z ∧ z ≤ 9223372036854775807)
    (a2 : Option Addr) (len2 cap2 : Nat) (z2 : List Int) (i2 : Ints w w.heap.size a2 len2 z2) (_lc2 : len2 ≤ cap2) (_hs2 : cap2 * 8 ≤ 140737488351232) (_b2 : ∀ z ∈ z2, -9223372036854775808 ≤ z ∧ z ≤ 9223372036854775807)
    (a3 : Option Addr) (len3 cap3 : Nat) (z3 : List Int) (i3 : Ints w w.heap.size a3 len3 z3) (_lc3 : len3 ≤ cap3) (_hs3 : cap3 * 8 ≤ 140737488351232) (_b3 : ∀ z ∈ z3, -9223372036854775808 ≤ z ∧ z ≤ 9223372036854775807) :
    Calls Try.prog 4 #[.slice a0 len0 cap0, .slice a1 len1 cap1, .slice a2 len2 cap2, .slice a3 len3 cap3] w fun e w' => e = .returned (.bool true) ∧ Below w.heap.size w w' :=
  LawMeets_any _ _ _ _ _ _ _ _ _ _ _ _ _ _ _ _ _ (by omega) (by omega) i0 i1 i2 i3
end Go.Proofs.Ytfaigomhnhgjfaa
