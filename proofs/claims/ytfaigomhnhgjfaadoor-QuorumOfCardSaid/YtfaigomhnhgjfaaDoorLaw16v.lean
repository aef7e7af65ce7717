/-
  WHAT IS PROVED HERE: what the laws of voters' texts use of the contracts: Text and Parse in each case, alive, Ints. Conditions as at the contracts.
-/
import Derived.Test.YtfaigomhnhgjfaaDoorQuorumX
import Derived.Test.YtfaigomhnhgjfaaDoorQuorumW
namespace Go.Proofs.YtfaigomhnhgjfaaDoor
open Go.RowKit

/-- cell by cell the same -/
def sameL : List Int → List Int → Bool
  | [], [] => true
  | x :: xs, y :: ys => x == y && sameL xs ys
  | _, _ => false
theorem sameL_eq : ∀ {xs ys : List Int}, sameL xs ys = decide (xs = ys)
  | [], [] => rfl
  | [], y :: ys => by simp [sameL]
  | x :: xs, [] => by simp [sameL]
  | x :: xs, y :: ys => by
    rw [sameL, sameL_eq]
    by_cases h : x = y <;> simp [h]
set_option maxHeartbeats 400000 in
theorem Ints_any (a : Option Addr) (len cap : Nat) (xs : List Int) (a' : Option Addr) (len' cap' : Nat) (ys : List Int) (w : World) (B B' : Nat) (hm : len ≤ 140737488355328) (hm' : len' ≤ 140737488355328)
    (h : Ints w B a len xs) (h' : Ints w B' a' len' ys) :
    Calls Tryd.prog 9 #[.slice a len cap, .slice a' len' cap'] w fun e w' => e = .returned (.bool (decide (xs = ys))) ∧ Below w.heap.size w w' := by
  have hl := hid_mk h.len
  have hl' := hid_mk h'.len
  by_cases e : len = len'
  · subst e
    go_enter Tryd.func9, Tryd.ntmps9
    go_wp2
    go_loopw [13] (fun i wr => ∃ k : Nat, k ≤ len ∧ i = .int .i64 k ∧ Below w.heap.size w wr ∧ Hid (sameL xs ys = sameL (xs.drop k) (ys.drop k))) (fun i _ => len - (intOf i).toNat)
    case atStart => exact ⟨0, Nat.zero_le _, rfl, Below.refl _ _, by simp [Hid]⟩
    case round =>
      obtain ⟨k, hk, rfl, hb, hn⟩ := hrel
      by_cases hlt : k < len
      · obtain ⟨b, o, x, rfl, _, hd, hc⟩ := (h.below hb).at_ hlt
        obtain ⟨b', o', y, rfl, _, hd', hc'⟩ := (h'.below hb).at_ hlt
        have hki : (k : Int) < len := by omega
        have hk0 : (0 : Int) ≤ k := by omega
        by_cases ht : x = y
        · have ht1 : (x != y) = false := by simp [ht]
          replace ht := hid_mk ht
          go_wp2
          go_quiet (fail)
          all_goals go_wp2
          all_goals
            go_roundw
            case rel => exact ⟨k + 1, by omega, by go_num, below_drewN hb _, by rw [Hid, hn.out, hd.out, hd'.out]; simp [sameL, ht.out]⟩
            case measure => simp [intOf]; omega
        · have ht1 : (x != y) = true := by simp [ht]
          replace ht := hid_mk ht
          go_wp2
          go_quiet (fail)
          all_goals go_wp2
          all_goals
            go_ret
            exact ⟨ret_bool (by rw [← sameL_eq, hn.out, hd.out, hd'.out]; simp [sameL, ht.out]), below_drewN hb _⟩
      · have he := hid_mk (h.end_ hk hlt)
        have he' := hid_mk (h'.end_ hk hlt)
        go_wp2
        go_ret
        exact ⟨ret_bool (by rw [← sameL_eq, hn.out, he.out, he'.out]; simp [sameL]), hb⟩
  · have e1 : ((len : Int) != (len' : Int)) = true := by simp; omega
    have e2 : ((len : Nat) != (len' : Nat)) = true := by simp; omega
    go_enter Tryd.func9, Tryd.ntmps9
    go_wp2
    go_ret
    exact ⟨ret_bool (by symm; simp only [decide_eq_false_iff_not]; rintro rfl; exact e (by rw [← hl.out, hl'.out])), Below.refl _ _⟩
theorem alive_any (w : World) : Calls Tryd.prog 8 #[] w fun e w' => e = .returned (.bool true) ∧ Below w.heap.size w w' := by
  have hb : Below w.heap.size w (w.alloc (.cells #[.int .i64 1] 3)) := (Below.refl _ w).alloc (Nat.le_refl _) _
  have hI : Ints (w.alloc (.cells #[.int .i64 1] 3)) 0 (some ⟨w.heap.size, 0, none⟩) 1 [1] := reads_new w #[.int .i64 1] 3 1 1 0 rfl
  go_enter Tryd.func8, Tryd.ntmps8
  go_wp2_with (go_at_call 15; refine (Right_any _ _ _ [1] _ _ (by omega) hI).mono ?_; rintro e w' ⟨rfl, rfl⟩)
  go_ret
  exact ⟨ret_bool (by rfl), hb⟩
section
variable {Pr : Program}
theorem Text_yes (a : Option Addr) (len cap : Nat) (xs : List Int) (w : World) (B : Nat) (hm : len ≤ 140737488355328) (h : Ints w B a len xs) (hr : rightL xs = true) :
    Calls Tryd.prog 10 #[.slice a len cap] w fun e w' => e = .returned (.tuple #[.string ⟨(txtL xs).toArray⟩, .int .i64 0]) ∧ Below w.heap.size w w' := by
  refine (Text_any a len cap xs w B hm h).mono ?_
  intro e w' h
  unfold RetT at h
  rw [hr] at h
  exact h
theorem Text_no (a : Option Addr) (len cap : Nat) (xs : List Int) (w : World) (B : Nat) (hm : len ≤ 140737488355328) (h : Ints w B a len xs) (hr : rightL xs = false) :
    Calls Tryd.prog 10 #[.slice a len cap] w fun e w' => e = .returned (.tuple #[.string ⟨#[]⟩, .int .i64 160]) ∧ Below w.heap.size w w' := by
  refine (Text_any a len cap xs w B hm h).mono ?_
  intro e w' h
  unfold RetT at h
  rw [hr] at h
  exact h
theorem Parse_yes (s : ByteArray) (w : World) (m : Int) (hm : w.cell? ⟨0, 0, none⟩ = some (.int .i64 m)) {o : List Int} (hp : parseQ s.data.toList = some o) :
    Calls Tryd.prog 11 #[.string s] w fun e w' => ∃ A n c, e = .returned (.tuple #[.slice A n c, .int .i64 0]) ∧ Ints w' 0 A n o ∧ n ≤ c ∧ n ≤ 7 ∧ Below w.heap.size w w' := by
  refine (Parse_any s w m hm).mono ?_
  intro e w' h
  unfold RetQ at h
  rw [hp] at h
  exact h
theorem Parse_no (s : ByteArray) (w : World) (m : Int) (hm : w.cell? ⟨0, 0, none⟩ = some (.int .i64 m)) (hp : parseQ s.data.toList = none) :
    Calls Tryd.prog 11 #[.string s] w fun e w' => ∃ A c, e = .returned (.tuple #[.slice A 0 c, .int .i64 160]) ∧ Below w.heap.size w w' := by
  refine (Parse_any s w m hm).mono ?_
  intro e w' h
  unfold RetQ at h
  rw [hp] at h
  obtain ⟨A, n, c, h1, h2, _, _, h3⟩ := h
  have h0 : n = 0 := by simpa using h2.len.symm
  subst h0
  exact ⟨A, c, h1, h3⟩
theorem RParse_yes (s : ByteArray) (w : World) {o : List Int} (hp : parseR s.data.toList = some o) :
    Calls Tryd.prog 14 #[.string s] w fun e w' => ∃ A n c, e = .returned (.tuple #[.slice A n c, .bool true]) ∧ Ints w' 0 A n o ∧ n ≤ c ∧ n ≤ 7 ∧ Below w.heap.size w w' := by
  refine (refParse_any s w).mono ?_
  intro e w' h
  unfold RetQR at h
  rw [hp] at h
  obtain ⟨A, n, c, h1, h2, h3, h4, h5⟩ := h
  exact ⟨A, n, c, h1, h2 rfl, h3, h4, h5⟩
theorem RParse_no (s : ByteArray) (w : World) (hp : parseR s.data.toList = none) :
    Calls Tryd.prog 14 #[.string s] w fun e w' => ∃ A n c, e = .returned (.tuple #[.slice A n c, .bool false]) ∧ Below w.heap.size w w' := by
  refine (refParse_any s w).mono ?_
  intro e w' h
  unfold RetQR at h
  rw [hp] at h
  obtain ⟨A, n, c, h1, h2, h3, h4, h5⟩ := h
  exact ⟨A, n, c, h1, h5⟩
end
end Go.Proofs.YtfaigomhnhgjfaaDoor
