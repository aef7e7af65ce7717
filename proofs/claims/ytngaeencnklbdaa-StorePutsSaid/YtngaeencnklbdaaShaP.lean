/-
  WHAT IS PROVED HERE: plain laws of the eight words over many blocks, of filling up a text, and of a digest's bytes. No condition.
-/
import Derived.Test.YtngaeencnklbdaaSha2
namespace Go.Proofs.Ytngaeencnklbdaa
open Go.RowKit

/-- the words behind n blocks of a text -/
def eatN (s : S8) (l : List UInt8) : Nat → S8
  | 0 => s
  | n + 1 => over8 (l.drop (64 * n)) (eatN s l n)
def iv8 : S8 := ⟨1779033703, 3144134277, 1013904242, 2773480762, 1359893119, 2600822924, 528734635, 1541459225⟩
/-- what a Hash holds behind a text: its words, and the rest -/
def hw (t : List UInt8) : S8 := eatN iv8 t (t.length / 64)
def hr (t : List UInt8) : List UInt8 := t.drop (64 * (t.length / 64))
def be8 (x : Nat) : List UInt8 := [UInt8.ofNat (x / 72057594037927936), UInt8.ofNat (x / 281474976710656), UInt8.ofNat (x / 1099511627776), UInt8.ofNat (x / 4294967296), UInt8.ofNat (x / 16777216), UInt8.ofNat (x / 65536), UInt8.ofNat (x / 256), UInt8.ofNat x]
def padZ (n : Nat) : Nat := (119 - n % 64) % 64
/-- what fills a text of n bytes up -/
def padL (n : Nat) : List UInt8 := [128] ++ List.replicate (padZ n) 0 ++ be8 (8 * n)
def be4 (x : Int) : List UInt8 := [UInt8.ofNat (x / 16777216 % 256).toNat, UInt8.ofNat (x / 65536 % 256).toNat, UInt8.ofNat (x / 256 % 256).toNat, UInt8.ofNat (x % 256).toNat]
def outL (s : S8) : List UInt8 := (s8L s).flatMap be4
/-- a text's digest -/
def digL (t : List UInt8) : List UInt8 := outL (hw (t ++ padL t.length))

section
variable {l l' t u : List UInt8} {s : S8}
theorem wordB_congr (h : ∀ j, j < 64 → l.getD j 0 = l'.getD j 0) {i : Nat} (hi : i < 16) : wordB l i = wordB l' i := by
  unfold wordB; rw [h _ (by omega), h _ (by omega), h _ (by omega), h _ (by omega)]
theorem wList_congr (h : ∀ j, j < 64 → l.getD j 0 = l'.getD j 0) : ∀ n, wList l n = wList l' n
  | 0 => rfl
  | n + 1 => by
    rw [wList, wList, wList_congr h n]
    split
    · rename_i hn; rw [wordB_congr h hn]
    · rfl
theorem over8_congr (h : ∀ j, j < 64 → l.getD j 0 = l'.getD j 0) (s : S8) : over8 l s = over8 l' s := by unfold over8; rw [wList_congr h]
theorem eatN_append (s : S8) (t u : List UInt8) : ∀ n, 64 * n ≤ t.length → eatN s (t ++ u) n = eatN s t n
  | 0, _ => rfl
  | n + 1, h => by
    rw [eatN, eatN, eatN_append s t u n (by omega)]
    refine over8_congr (fun j hj => ?_) _
    rw [List.getD_eq_getElem?_getD, List.getD_eq_getElem?_getD, List.getElem?_drop, List.getElem?_drop, List.getElem?_append_left (by omega)]
theorem eatN_add (s : S8) (t : List UInt8) (n : Nat) : ∀ k, eatN s t (n + k) = eatN (eatN s t n) (t.drop (64 * n)) k
  | 0 => rfl
  | k + 1 => by rw [← Nat.add_assoc, eatN, eatN, eatN_add s t n k, List.drop_drop, show 64 * n + 64 * k = 64 * (n + k) from by omega]
theorem hr_len (t : List UInt8) : (hr t).length = t.length % 64 := by unfold hr; rw [List.length_drop]; omega
theorem hr_append (t u : List UInt8) : (hr t ++ u).drop (64 * ((hr t ++ u).length / 64)) = hr (t ++ u) := by
  have h := hr_len t
  unfold hr at *
  rw [List.length_append, List.length_append, h, ← List.drop_append_of_le_length (by omega), List.drop_drop]
  congr 1
  omega
theorem hw_append (t u : List UInt8) : eatN (hw t) (hr t ++ u) ((hr t ++ u).length / 64) = hw (t ++ u) := by
  have h := hr_len t
  unfold hw
  rw [List.length_append, List.length_append, h, show (t.length + u.length) / 64 = t.length / 64 + (t.length % 64 + u.length) / 64 from by omega, eatN_add iv8 (t ++ u), eatN_append iv8 t u _ (by omega), List.drop_append_of_le_length (by omega)]
  rfl
theorem padL_len (n : Nat) : (padL n).length = 9 + padZ n := by unfold padL be8; simp; omega
theorem padL_full (n : Nat) : (n + (padL n).length) % 64 = 0 := by rw [padL_len]; unfold padZ; omega
theorem be4_len (x : Int) : (be4 x).length = 4 := rfl
theorem outL_len (s : S8) : (outL s).length = 32 := rfl
theorem digL_len (t : List UInt8) : (digL t).length = 32 := rfl
/-- words that are words -/
def okS (s : S8) : Prop := (0 ≤ s.a ∧ s.a < 4294967296) ∧ (0 ≤ s.b ∧ s.b < 4294967296) ∧ (0 ≤ s.c ∧ s.c < 4294967296) ∧ (0 ≤ s.d ∧ s.d < 4294967296) ∧ (0 ≤ s.e ∧ s.e < 4294967296) ∧ (0 ≤ s.f ∧ s.f < 4294967296) ∧ (0 ≤ s.g ∧ s.g < 4294967296) ∧ (0 ≤ s.h ∧ s.h < 4294967296)
theorem okS_over8 (l : List UInt8) (s : S8) : okS (over8 l s) := by
  unfold over8 add8 okS
  dsimp only
  refine ⟨⟨?_, ?_⟩, ⟨?_, ?_⟩, ⟨?_, ?_⟩, ⟨?_, ?_⟩, ⟨?_, ?_⟩, ⟨?_, ?_⟩, ⟨?_, ?_⟩, ⟨?_, ?_⟩⟩ <;> omega
theorem okS_iv8 : okS iv8 := by unfold okS iv8; dsimp only; omega
theorem okS_eatN (h : okS s) (l : List UInt8) : ∀ n, okS (eatN s l n)
  | 0 => h
  | _ + 1 => okS_over8 _ _
theorem okS_hw (t : List UInt8) : okS (hw t) := okS_eatN okS_iv8 _ _
theorem okS_at (h : okS s) {k : Nat} (hk : k < 8) : 0 ≤ (s8L s).getD k 0 ∧ (s8L s).getD k 0 < 4294967296 := by
  obtain ⟨h0, h1, h2, h3, h4, h5, h6, h7⟩ := h
  rcases k with _ | _ | _ | _ | _ | _ | _ | _ | k
  · exact h0
  · exact h1
  · exact h2
  · exact h3
  · exact h4
  · exact h5
  · exact h6
  · exact h7
  · omega
theorem s8L_take {k : Nat} (hk : k < 8) : (s8L s).take (k + 1) = (s8L s).take k ++ [(s8L s).getD k 0] := by
  have h : k < (s8L s).length := hk
  rw [List.take_succ_eq_append_getElem h, List.getD_eq_getElem?_getD, List.getElem?_eq_getElem h]; rfl
theorem outL_take {k : Nat} (hk : k < 8) : ((s8L s).take (k + 1)).flatMap be4 = ((s8L s).take k).flatMap be4 ++ be4 ((s8L s).getD k 0) := by
  rw [s8L_take hk, List.flatMap_append, List.flatMap_singleton]
end
end Go.Proofs.Ytngaeencnklbdaa
