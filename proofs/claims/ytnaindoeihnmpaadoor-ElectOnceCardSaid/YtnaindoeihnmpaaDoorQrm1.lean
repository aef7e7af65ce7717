/-
  WHAT IS PROVED HERE: what the functions of layer 16 that only read slices of ints hand back: Right (both texts), In, slices.Index, slices.Contains, Ints, the reference's Wins and Next. Conditions: the slices hold ints and are of at most 2^47 elements.
-/
import Derived.Test.YtnaindoeihnmpaaDoorBase
namespace Go.Proofs.YtnaindoeihnmpaaDoor
open Go.RowKit

/-- is x among them? -/
def inL (x : Int) : List Int → Bool
  | [] => false
  | y :: ys => if x == y then true else inL x ys

/-- the place of x -/
def idxL (x : Int) (i : Nat) : List Int → Int
  | [] => -1
  | y :: ys => if x == y then i else idxL x (i + 1) ys
theorem idx_in (x : Int) (xs : List Int) : ∀ i, decide (0 ≤ idxL x i xs) = inL x xs := by
  induction xs with
  | nil => intro i; rfl
  | cons y ys ih =>
    intro i
    unfold idxL inL
    split
    · simp
    · exact ih _

theorem Index_any (a : Option Addr) (len cap : Nat) (xs : List Int) (x : Int) (w : World) (B : Nat) (hm : len ≤ 140737488355328) (h : Ints w B a len xs) :
    Calls Tryd.prog 44 #[.slice a len cap, .int .i64 x] w fun e w' => e = .returned (.int .i64 (idxL x 0 xs)) ∧ w = w' := by
  go_enter Tryd.func44, Tryd.ntmps44
  go_wp2
  go_loop [5, 8] (fun _ i => ∃ k : Nat, k ≤ len ∧ i = .int .i64 k ∧ Hid (idxL x 0 xs = idxL x k (xs.drop k))) (fun _ i => len - (intOf i).toNat)
  case atStart => exact ⟨0, Nat.zero_le _, rfl, by simp [Hid]⟩
  case round =>
    obtain ⟨k, hk, rfl, hn⟩ := hrel
    by_cases hlt : k < len
    · obtain ⟨b, o, y, rfl, _, hd, hc⟩ := h.at_ hlt
      go_wp2
      · go_ret
        have ht : (x == y) = true := by assumption
        exact ⟨ret_int (by rw [hn.out, hd.out]; simp [idxL, ht]), rfl⟩
      · have ht : (x == y) = false := by assumption
        go_round
        case rel => exact ⟨k + 1, by omega, by go_num, by rw [Hid, hn.out, hd.out]; simp [idxL, ht]⟩
        case measure => simp [intOf]; omega
    · have he := hid_mk (h.end_ hk hlt)
      go_wp2
      go_ret
      exact ⟨ret_int (by rw [hn.out, he.out]; simp [idxL]), rfl⟩

theorem Contains_any (a : Option Addr) (len cap : Nat) (xs : List Int) (x : Int) (w : World) (B : Nat) (hm : len ≤ 140737488355328) (h : Ints w B a len xs) :
    Calls Tryd.prog 31 #[.slice a len cap, .int .i64 x] w fun e w' => e = .returned (.bool (inL x xs)) ∧ w = w' := by
  go_enter Tryd.func31, Tryd.ntmps31
  go_wp2_with (go_at_call 44; refine (Index_any _ _ _ xs _ _ B hm h).mono ?_; rintro e w' ⟨rfl, rfl⟩)
  go_ret
  exact ⟨ret_bool (idx_in x xs 0), rfl⟩

/-- ascending, each from 1 to 9 -/
def ascL : Option Int → List Int → Bool
  | _, [] => true
  | none, v :: vs => if v < 1 ∨ 9 < v then false else ascL (some v) vs
  | some u, v :: vs => if v < 1 ∨ 9 < v ∨ v ≤ u then false else ascL (some v) vs
def prevOf (xs : List Int) (k : Nat) : Option Int := if k = 0 then none else xs[k - 1]?
def rightL (xs : List Int) : Bool := ascL none xs && decide (1 ≤ xs.length ∧ xs.length ≤ 7)

theorem prev_zero (xs : List Int) : prevOf xs 0 = none := rfl
theorem prev_succ {xs : List Int} {m : Nat} {u : Int} (h : xs.drop m = u :: xs.drop (m + 1)) : prevOf xs (m + 1) = some u := by
  unfold prevOf
  rw [if_neg (by omega), Nat.add_sub_cancel]
  have : (xs.drop m)[0]? = some u := by rw [h]; rfl
  simpa using this

set_option maxHeartbeats 400000 in
theorem qrefRight_any (a : Option Addr) (len cap : Nat) (xs : List Int) (w : World) (B : Nat) (hm : len ≤ 140737488355328) (h : Ints w B a len xs) :
    Calls Tryd.prog 24 #[.slice a len cap] w fun e w' => e = .returned (.bool (rightL xs)) ∧ w = w' := by
  have hlen := hid_mk h.len
  go_enter Tryd.func24, Tryd.ntmps24
  go_wp2
  go_loop [3, 4, 7] (fun _ _ i => ∃ k : Nat, k ≤ len ∧ i = .int .i64 k ∧ Hid (ascL none xs = ascL (prevOf xs k) (xs.drop k))) (fun _ _ i => len - (intOf i).toNat)
  case atStart => exact ⟨0, Nat.zero_le _, rfl, by simp [Hid, prevOf]⟩
  case round =>
    obtain ⟨k, hk, rfl, hn⟩ := hrel
    by_cases hlt : k < len
    · obtain ⟨b, o, v, rfl, _, hd, hc⟩ := h.at_ hlt
      have hp1 := hid_mk (prev_succ hd.out)
      have ends : ascL (prevOf xs k) (xs.drop k) = false → rightL xs = false := fun he => by simp [rightL, hn.out, he]
      rcases Nat.eq_zero_or_pos k with h0 | h0
      · subst h0
        rw [Nat.add_zero] at hc
        by_cases h1 : v < 1
        · go_wp2
          go_ret
          exact ⟨ret_bool (by rw [ends]; rw [prev_zero, hd.out, ascL, if_pos (.inl h1)]), rfl⟩
        by_cases h9 : 9 < v
        · go_wp2
          go_ret
          exact ⟨ret_bool (by rw [ends]; rw [prev_zero, hd.out, ascL, if_pos (.inr h9)]), rfl⟩
        go_wp2
        go_round
        case rel => exact ⟨1, by omega, by go_num, by rw [Hid, hn.out, hd.out, hp1.out, prev_zero, ascL, if_neg (by omega)]⟩
        case measure => simp [intOf]; omega
      · obtain ⟨m, rfl⟩ : ∃ m, k = m + 1 := ⟨k - 1, by omega⟩
        obtain ⟨b', o', u, e, _, hd', hc'⟩ := h.at_ (show m < len by omega)
        cases e
        have hp := hid_mk (prev_succ hd'.out)
        by_cases h1 : v < 1
        · go_wp2
          go_ret
          exact ⟨ret_bool (by rw [ends]; rw [hp.out, hd.out, ascL, if_pos (.inl h1)]), rfl⟩
        by_cases h9 : 9 < v
        · go_wp2
          go_ret
          exact ⟨ret_bool (by rw [ends]; rw [hp.out, hd.out, ascL, if_pos (.inr (.inl h9))]), rfl⟩
        by_cases hu : v ≤ u
        · go_wp2
          go_ret
          exact ⟨ret_bool (by rw [ends]; rw [hp.out, hd.out, ascL, if_pos (.inr (.inr hu))]), rfl⟩
        go_wp2
        go_round
        case rel => exact ⟨m + 1 + 1, by omega, by go_num, by rw [Hid, hn.out, hd.out, hp1.out, hp.out, ascL, if_neg (by omega)]⟩
        case measure => simp [intOf]; omega
    · have he := hid_mk (h.end_ hk hlt)
      have hf := hid_mk (show ascL none xs = true by rw [hn.out, he.out]; cases prevOf xs k <;> rfl)
      obtain rfl : k = len := by omega
      by_cases hl1 : 1 ≤ k
      · go_wp2
        go_ret
        exact ⟨ret_bool (by unfold rightL; rw [hf.out, hlen.out, Bool.true_and, Bool.eq_iff_iff]; simp only [decide_eq_true_eq]; omega), rfl⟩
      · go_wp2
        go_ret
        exact ⟨ret_bool (by unfold rightL; rw [hf.out, hlen.out]; simp [hl1]), rfl⟩

set_option maxHeartbeats 400000 in
theorem qRight_any (a : Option Addr) (len cap : Nat) (xs : List Int) (w : World) (B : Nat) (hm : len ≤ 140737488355328) (h : Ints w B a len xs) :
    Calls Tryd.prog 17 #[.slice a len cap] w fun e w' => e = .returned (.bool (rightL xs)) ∧ w = w' := by
  have hlen := hid_mk h.len
  by_cases hl1 : len < 1
  · go_enter Tryd.func17, Tryd.ntmps17
    go_wp2
    go_ret
    exact ⟨ret_bool (by unfold rightL; rw [hlen.out]; simp; omega), rfl⟩
  by_cases hl7 : 7 < len
  · go_enter Tryd.func17, Tryd.ntmps17
    go_wp2
    go_ret
    exact ⟨ret_bool (by unfold rightL; rw [hlen.out]; simp; omega), rfl⟩
  go_enter Tryd.func17, Tryd.ntmps17
  go_wp2
  go_loop [3, 4, 15] (fun _ _ i => ∃ k : Nat, k ≤ len ∧ i = .int .i64 k ∧ Hid (ascL none xs = ascL (prevOf xs k) (xs.drop k))) (fun _ _ i => len - (intOf i).toNat)
  case atStart => exact ⟨0, Nat.zero_le _, rfl, by simp [Hid, prevOf]⟩
  case round =>
    obtain ⟨k, hk, rfl, hn⟩ := hrel
    by_cases hlt : k < len
    · obtain ⟨b, o, v, rfl, _, hd, hc⟩ := h.at_ hlt
      have hp1 := hid_mk (prev_succ hd.out)
      have ends : ascL (prevOf xs k) (xs.drop k) = false → rightL xs = false := fun he => by simp [rightL, hn.out, he]
      rcases Nat.eq_zero_or_pos k with h0 | h0
      · subst h0
        rw [Nat.add_zero] at hc
        by_cases h1 : v < 1
        · go_wp2
          go_ret
          exact ⟨ret_bool (by rw [ends]; rw [prev_zero, hd.out, ascL, if_pos (.inl h1)]), rfl⟩
        by_cases h9 : 9 < v
        · go_wp2
          go_ret
          exact ⟨ret_bool (by rw [ends]; rw [prev_zero, hd.out, ascL, if_pos (.inr h9)]), rfl⟩
        go_wp2
        go_round
        case rel => exact ⟨1, by omega, by go_num, by rw [Hid, hn.out, hd.out, hp1.out, prev_zero, ascL, if_neg (by omega)]⟩
        case measure => simp [intOf]; omega
      · obtain ⟨m, rfl⟩ : ∃ m, k = m + 1 := ⟨k - 1, by omega⟩
        obtain ⟨b', o', u, e, _, hd', hc'⟩ := h.at_ (show m < len by omega)
        cases e
        have hp := hid_mk (prev_succ hd'.out)
        by_cases h1 : v < 1
        · go_wp2
          go_ret
          exact ⟨ret_bool (by rw [ends]; rw [hp.out, hd.out, ascL, if_pos (.inl h1)]), rfl⟩
        by_cases h9 : 9 < v
        · go_wp2
          go_ret
          exact ⟨ret_bool (by rw [ends]; rw [hp.out, hd.out, ascL, if_pos (.inr (.inl h9))]), rfl⟩
        by_cases hu : v ≤ u
        · go_wp2
          go_ret
          exact ⟨ret_bool (by rw [ends]; rw [hp.out, hd.out, ascL, if_pos (.inr (.inr hu))]), rfl⟩
        go_wp2
        go_round
        case rel => exact ⟨m + 1 + 1, by omega, by go_num, by rw [Hid, hn.out, hd.out, hp1.out, hp.out, ascL, if_neg (by omega)]⟩
        case measure => simp [intOf]; omega
    · have he := hid_mk (h.end_ hk hlt)
      have hf := hid_mk (show ascL none xs = true by rw [hn.out, he.out]; cases prevOf xs k <;> rfl)
      go_wp2
      go_ret
      exact ⟨ret_bool (by unfold rightL; rw [hf.out, hlen.out]; simp; omega), rfl⟩

/-- how many of a are in b -/
def cntL (b : List Int) : List Int → Nat
  | [] => 0
  | x :: xs => (if inL x b then 1 else 0) + cntL b xs
theorem cnt_le (b : List Int) : ∀ a, cntL b a ≤ a.length
  | [] => by simp [cntL]
  | x :: xs => by have := cnt_le b xs; unfold cntL; split <;> simp <;> omega
theorem cnt_take {b a : List Int} {k : Nat} {x : Int} (h : a.drop k = x :: a.drop (k + 1)) : cntL b (a.take (k + 1)) = cntL b (a.take k) + (if inL x b then 1 else 0) := by
  have h1 : a.take (k + 1) = a.take k ++ [x] := by
    have hk : k < a.length := by
      rcases Nat.lt_or_ge k a.length with h' | h'
      · exact h'
      · rw [List.drop_eq_nil_of_le h'] at h; cases h
    have h2 : a[k]'hk = x := by rw [List.drop_eq_getElem_cons hk] at h; injection h
    rw [List.take_succ_eq_append_getElem hk, h2]
  rw [h1]
  generalize a.take k = l
  induction l with
  | nil => simp [cntL]
  | cons y ys ih => simp only [List.cons_append, cntL, ih]; omega
def winsL (v g : List Int) : Bool := rightL v && decide (v.length < 2 * cntL g v)
def nextL (a b : List Int) : Bool := rightL a && rightL b && decide ((a.length - cntL b a) + (b.length - cntL a b) = 1)

end Go.Proofs.YtnaindoeihnmpaaDoor
