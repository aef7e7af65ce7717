/-
  WHAT IS PROVED HERE: whether an item is rotten, what the law's few hands back, where a key stands by the reference. Condition: bodies of at most 2^37 bytes.
-/
import Derived.Test.YtngaeencnklbdaaSto1
import Derived.Test.YtngaeencnklbdaaLeaf
namespace Go.Proofs.Ytngaeencnklbdaa
open Go.RowKit

def rotB (i : Itm) : Bool := decide (dB (leafT i.b) ≠ i.k)
theorem str_ne (a b : ByteArray) : (a.toList != b.toList) = !decide (a = b) := by rw [bne, str_eq]
theorem rotten_any (i : Itm) (w : World) (hs : i.b.size ≤ 137438953472) :
    Calls Try.prog 28 #[itmV i] w fun e w' => e = .returned (.bool (rotB i)) ∧ Below w.heap.size w w' := by
  obtain ⟨K, Bd, rf⟩ := i
  unfold itmV
  dsimp only at *
  obtain ⟨D, hD⟩ : ∃ D, dB (leafT Bd) = D := ⟨_, rfl⟩
  have hR : Hid (rotB ⟨K, Bd, rf⟩ = (D.toList != K.toList)) := by
    rw [Hid, str_ne]; unfold rotB; dsimp only; rw [hD]; simp
  have hb0 : Hid (Below w.heap.size w (w.alloc (.cells #[.string K, .string Bd, .int .i64 rf] 35))) := (Below.refl _ w).alloc (Nat.le_refl _) _
  have hN : Blk (w.alloc (.cells #[.string K, .string Bd, .int .i64 rf] 35)) w.heap.size 35 #[.string K, .string Bd, .int .i64 rf] := Blk.new w 35 #[.string K, .string Bd, .int .i64 rf]
  have hlt := hN.lt
  have c0 : (w.alloc (.cells #[.string K, .string Bd, .int .i64 rf] 35)).cell? ⟨w.heap.size, 0, none⟩ = some (.string K) := hN.cell 0
  have c1 : (w.alloc (.cells #[.string K, .string Bd, .int .i64 rf] 35)).cell? ⟨w.heap.size, 1, none⟩ = some (.string Bd) := hN.cell 1
  obtain ⟨w1, hw1⟩ : ∃ u, w.alloc (.cells #[.string K, .string Bd, .int .i64 rf] 35) = u := ⟨_, rfl⟩
  have z0 := c0
  have z1 := c1
  rw [hw1] at z0 z1 hb0
  replace z0 := hid_mk z0
  replace z1 := hid_mk z1
  replace hN := hid_mk hN
  replace hD := hid_mk hD
  have hlt1 : Hid (w.heap.size < w1.heap.size) := by rw [Hid, ← hw1]; exact hlt
  refine calls_of_wpQ Try.func28 rfl ?_
  intro Q hQ
  simp only [Try.ntmps28, List.size_toArray, List.length_cons, List.length_nil, Nat.reduceAdd, Nat.reduceSub, Array.replicate_succ, Array.replicate_zero, List.push_toArray, List.append_toArray, List.nil_append, List.cons_append]
  go_wp2_with fail
  go_region_held3 (fun w' => w'.cell? ⟨w.heap.size, 0, none⟩ = some (.string K) ∧ w'.cell? ⟨w.heap.size, 1, none⟩ = some (.string Bd)) ((first | (refine ⟨?_, ?_⟩ <;> assumption) | go_keep)) ((go_at_call 23; refine (Leaf_any Bd _ hs).mono ?_; rw [hD.out]; rintro e w2 ⟨rfl, hb2⟩; have k2 : Below w1.heap.size w1 w2 := (Below.trans (by go_grown) hb2); have q2 := (after (w := w) k2 hb0.out).1; have d0 := ((bcell k2).1 _ 0 hlt1.out).trans z0.out; have d1 := ((bcell k2).1 _ 1 hlt1.out).trans z1.out; clear hb2 k2))
  go_wp2
  refine ends_ret hQ (results_tmp rfl _ _ _) rfl ?_
  exact ⟨by rw [hR.out]; rfl, q2⟩
theorem Rot_any (i : Itm) (w : World) (hs : i.b.size ≤ 137438953472) :
    Calls Try.prog 13 #[itmV i] w fun e w' => e = .returned (.bool (rotB i)) ∧ Below w.heap.size w w' := by
  obtain ⟨K, Bd, rf⟩ := i
  unfold itmV
  dsimp only at *
  obtain ⟨D, hD⟩ : ∃ D, dB (leafT Bd) = D := ⟨_, rfl⟩
  have hR : Hid (rotB ⟨K, Bd, rf⟩ = (D.toList != K.toList)) := by
    rw [Hid, str_ne]; unfold rotB; dsimp only; rw [hD]; simp
  have hb0 : Hid (Below w.heap.size w (w.alloc (.cells #[.string K, .string Bd, .int .i64 rf] 35))) := (Below.refl _ w).alloc (Nat.le_refl _) _
  have hN : Blk (w.alloc (.cells #[.string K, .string Bd, .int .i64 rf] 35)) w.heap.size 35 #[.string K, .string Bd, .int .i64 rf] := Blk.new w 35 #[.string K, .string Bd, .int .i64 rf]
  have hlt := hN.lt
  have c0 : (w.alloc (.cells #[.string K, .string Bd, .int .i64 rf] 35)).cell? ⟨w.heap.size, 0, none⟩ = some (.string K) := hN.cell 0
  have c1 : (w.alloc (.cells #[.string K, .string Bd, .int .i64 rf] 35)).cell? ⟨w.heap.size, 1, none⟩ = some (.string Bd) := hN.cell 1
  obtain ⟨w1, hw1⟩ : ∃ u, w.alloc (.cells #[.string K, .string Bd, .int .i64 rf] 35) = u := ⟨_, rfl⟩
  have z0 := c0
  have z1 := c1
  rw [hw1] at z0 z1 hb0
  replace z0 := hid_mk z0
  replace z1 := hid_mk z1
  replace hN := hid_mk hN
  replace hD := hid_mk hD
  have hlt1 : Hid (w.heap.size < w1.heap.size) := by rw [Hid, ← hw1]; exact hlt
  refine calls_of_wpQ Try.func13 rfl ?_
  intro Q hQ
  simp only [Try.ntmps13, List.size_toArray, List.length_cons, List.length_nil, Nat.reduceAdd, Nat.reduceSub, Array.replicate_succ, Array.replicate_zero, List.push_toArray, List.append_toArray, List.nil_append, List.cons_append]
  go_wp2_with fail
  go_region_held3 (fun w' => w'.cell? ⟨w.heap.size, 0, none⟩ = some (.string K) ∧ w'.cell? ⟨w.heap.size, 1, none⟩ = some (.string Bd)) ((first | (refine ⟨?_, ?_⟩ <;> assumption) | go_keep)) ((go_at_call 29; refine (RLeaf_any Bd _ hs).mono ?_; rw [hD.out]; rintro e w2 ⟨rfl, hb2⟩; have k2 : Below w1.heap.size w1 w2 := (Below.trans (by go_grown) hb2); have q2 := (after (w := w) k2 hb0.out).1; have d0 := ((bcell k2).1 _ 0 hlt1.out).trans z0.out; have d1 := ((bcell k2).1 _ 1 hlt1.out).trans z1.out; clear hb2 k2))
  go_wp2
  refine ends_ret hQ (results_tmp rfl _ _ _) rfl ?_
  exact ⟨by rw [hR.out]; rfl, q2⟩
def fewI (is : List Itm) : List Itm := if 60 < is.length ∧ is.length < 4096 then is.take 60 else is
def fewN (n : Nat) : Nat := if 60 < n ∧ n < 4096 then 60 else n
theorem itmsL_take (is : List Itm) (k : Nat) : (itmsL is).take (k * 3) = itmsL (is.take k) := by
  induction is generalizing k with
  | nil => simp [itmsL]
  | cons i is ih =>
    cases k with
    | zero => simp [itmsL]
    | succ k =>
      have h := ih k
      rw [show (k + 1) * 3 = k * 3 + 3 from by omega]
      unfold itmsL at *
      simp only [List.flatMap_cons, List.take_succ_cons, itmCells, List.cons_append, List.nil_append]
      rw [h]
theorem Itms.take {w : World} {B n k : Nat} {A : Option Addr} {is : List Itm} (h : Itms w B A n is) (hk : k ≤ n) : Itms w B A k (is.take k) := by
  have h1 := Reads.take h hk
  rw [itmsL_take] at h1
  exact h1
theorem fewI_itms {w : World} {B n : Nat} {A : Option Addr} {is : List Itm} (h : Itms w B A n is) : Itms w B A (fewN n) (fewI is) := by
  have hl := h.len
  unfold fewI fewN
  rw [hl]
  split
  · exact h.take (by omega)
  · exact h
theorem fewN_le (n : Nat) : fewN n ≤ n := by unfold fewN; split <;> omega
theorem itemJ : (Try.prog.info? 35).isSome = true := by kernel_rfl
set_option maxRecDepth 100000 in
theorem few_any (A : Option Addr) (n cap : Nat) (w : World) (hc : n ≤ cap) (hcap : cap ≤ 140737488351232) :
    Calls Try.prog 7 #[.agg #[.slice A n cap]] w fun e w' => e = .returned (.agg #[.slice A (fewN n) cap]) ∧ Below w.heap.size w w' := by
  obtain ⟨j0, hj0⟩ := Option.isSome_iff_exists.1 itemJ
  rcases (by omega : ¬ 60 < n ∨ (60 < n ∧ n < 4096) ∨ (60 < n ∧ ¬ n < 4096)) with h | ⟨h, h2⟩ | ⟨h, h2⟩
  · have hn : Hid (fewN n = n) := by unfold Hid fewN; rw [if_neg (by omega)]
    refine calls_of_wpQ Try.func7 rfl ?_
    intro Q hQ
    simp only [Try.ntmps7, List.size_toArray, List.length_cons, List.length_nil, Nat.reduceAdd, Nat.reduceSub, Array.replicate_succ, Array.replicate_zero, List.push_toArray, List.append_toArray, List.nil_append, List.cons_append]
    go_wp2
    refine ends_ret hQ (v := .agg #[.slice A n cap]) (by simp [results, Try.results7, go_sem]) rfl ?_
    exact ⟨by rw [hn.out], by go_grown⟩
  · have hn : Hid (fewN n = 60) := by unfold Hid fewN; rw [if_pos ⟨h, h2⟩]
    have hsl := fun W : World => run_slice_upto (P := Try.prog) (w := W) 22 35 Try.underlying22 j0 hj0 A n cap 60 (by omega) (by omega)
    refine calls_of_wpQ Try.func7 rfl ?_
    intro Q hQ
    simp only [Try.ntmps7, List.size_toArray, List.length_cons, List.length_nil, Nat.reduceAdd, Nat.reduceSub, Array.replicate_succ, Array.replicate_zero, List.push_toArray, List.append_toArray, List.nil_append, List.cons_append]
    go_wp2
    refine ends_ret hQ (v := .agg #[.slice A 60 cap]) (by simp [results, Try.results7, go_sem]) rfl ?_
    exact ⟨by rw [hn.out], by go_grown⟩
  · have hn : Hid (fewN n = n) := by unfold Hid fewN; rw [if_neg (by omega)]
    refine calls_of_wpQ Try.func7 rfl ?_
    intro Q hQ
    simp only [Try.ntmps7, List.size_toArray, List.length_cons, List.length_nil, Nat.reduceAdd, Nat.reduceSub, Array.replicate_succ, Array.replicate_zero, List.push_toArray, List.append_toArray, List.nil_append, List.cons_append]
    go_wp2
    refine ends_ret hQ (v := .agg #[.slice A n cap]) (by simp [results, Try.results7, go_sem]) rfl ?_
    exact ⟨by rw [hn.out], by go_grown⟩
/-- the place of a key, by looking at one after the other -/
def atF (key : ByteArray) : List Itm → Nat → Int
  | [], _ => -1
  | i :: is, k => if i.k = key then k else atF key is (k + 1)
def atI (is : List Itm) (key : ByteArray) : Int := atF key is 0
theorem At_any (is : List Itm) (A : Option Addr) (n cap : Nat) (key : ByteArray) (w : World) {B : Nat} (hm : n ≤ 8796093022208) (h0 : Itms w B A n is) :
    Calls Try.prog 18 #[.agg #[.slice A n cap], .string key] w fun e w' => e = .returned (.int .i64 (atI is key)) ∧ Below w.heap.size w w' := by
  obtain ⟨R, hR⟩ : ∃ R, atI is key = R := ⟨_, rfl⟩
  rw [hR]
  have hRo : Hid (R = atF key (is.drop 0) 0) := by rw [Hid, ← hR]; rfl
  have hlen := hid_mk h0.len
  have h := hid_mk h0.top
  have hb0 : Hid (Below w.heap.size w (w.alloc (.cells #[.slice A n cap] 24))) := (Below.refl _ w).alloc (Nat.le_refl _) _
  replace hR := hid_mk hR
  clear h0
  refine calls_of_wpQ Try.func18 rfl ?_
  intro Q hQ
  simp only [Try.ntmps18, List.size_toArray, List.length_cons, List.length_nil, Nat.reduceAdd, Nat.reduceSub, Array.replicate_succ, Array.replicate_zero, List.push_toArray, List.append_toArray, List.nil_append, List.cons_append]
  go_wp2
  go_loopw [10] (fun iv wr => ∃ (k : Nat), iv = .int .i64 k ∧ k ≤ n ∧ Hid (R = atF key (is.drop k) k) ∧ Hid (Below w.heap.size w wr)) (fun iv _ => n - (intOf iv).toNat)
  case atStart => exact ⟨0, rfl, Nat.zero_le _, hRo, hb0⟩
  case round =>
    clear hRo hb0
    obtain ⟨k, rfl, hk, hRk, hb⟩ := hrel
    by_cases hlt : k < n
    · obtain ⟨b, o, i, rfl, hbl, hik, c0, c1, c2⟩ := (h.out.to hb.out).at_ hlt
      have hdr : is.drop k = i :: is.drop (k + 1) := by
        have hl : k < is.length := by rw [hlen.out]; exact hlt
        rw [List.drop_eq_getElem_cons hl]
        rw [List.getElem?_eq_getElem hl] at hik
        injection hik with hik
        rw [hik]
      obtain ⟨K, Bd, rf⟩ := i
      dsimp only at c0 c1 c2
      have hb2 : Hid (Below w.heap.size w (wr.alloc (.cells #[.string K, .string Bd, .int .i64 rf] 35))) := hb.out.alloc hb.out.size _
      have heq := str_eq K key
      replace hik := hid_mk hik
      by_cases hKk : K = key
      · subst hKk
        have hRf : Hid (R = (k : Int)) := by rw [Hid, hRk.out, hdr, atF, if_pos rfl]
        replace hdr := hid_mk hdr
        clear heq
        have hqq : (K.toList == K.toList) = true := by simp
        go_wp2
        refine ends_ret hQ (results_tmp rfl _ _ _) rfl ?_
        exact ⟨by rw [hRf.out]; rfl, hb2.out⟩
      · have hRn : Hid (R = atF key (is.drop (k + 1)) (k + 1)) := by rw [Hid, hRk.out, hdr, atF, if_neg hKk]
        have hq2 : (K.toList == key.toList) = false := by rw [heq]; simp [hKk]
        have hq3 : ¬ K.toList = key.toList := fun e => hKk (toList_inj e)
        replace hdr := hid_mk hdr
        clear heq
        replace hKk := hid_mk hKk
        go_wp2
        go_roundw
        case rel => exact ⟨k + 1, by go_num, by omega, hRn, hb2⟩
        case measure => simp [intOf]; omega
    · have hRf : Hid (R = -1) := by rw [Hid, hRk.out, List.drop_eq_nil_of_le (by rw [hlen.out]; omega)]; rfl
      go_wp2
      refine ends_ret hQ (results_tmp rfl _ _ _) rfl ?_
      exact ⟨by rw [hRf.out]; rfl, hb.out⟩
end Go.Proofs.Ytngaeencnklbdaa
