/-
  WHAT IS PROVED HERE: what the law's short, the reference's digit, Is, Hex and digest.Hex, digest.Parse hand back. Conditions: texts of at most 2^40 bytes.
-/
import Derived.Test.YtpfjfihfnplhfaaDigB
import Derived.Test.YtpfjfihfnplhfaaShelf
import Derived.Lib.BufferRead
namespace Go.Proofs.Ytpfjfihfnplhfaa
open Go.RowKit

/-! ### plain -/
def dg (n : Nat) : UInt8 := if n < 10 then (48 + n).toUInt8 else (87 + n).toUInt8
def hexL (l : List UInt8) : List UInt8 := l.flatMap fun c => [dg (c.toNat / 16), dg (c.toNat % 16)]
/-- is it a digit? -/
def isD (c : UInt8) : Bool := (decide (48 ≤ c.toNat) && decide (c.toNat ≤ 57)) || (decide (97 ≤ c.toNat) && decide (c.toNat ≤ 102))
def dv (c : UInt8) : Nat := if c.toNat < 58 then c.toNat - 48 else c.toNat - 87
def pairs : List UInt8 → List UInt8
  | a :: b :: r => (16 * dv a + dv b).toUInt8 :: pairs r
  | _ => []
theorem dg_nat {n : Nat} (h : n < 16) : (dg n).toNat = if n < 10 then 48 + n else 87 + n := by
  unfold dg
  split
  · simp [UInt8.toNat_ofNat']; omega
  · simp [UInt8.toNat_ofNat']; omega

theorem digit_any (n : Nat) (w : World) (h : n < 16) : Calls Try.prog 22 #[.int .u8 n] w fun e w' => e = .returned (.int .u8 (dg n).toNat) ∧ w = w' := by
  have hd := hid_mk (dg_nat h)
  by_cases g : n < 10
  · refine calls_of_wpQ Try.func22 rfl ?_
    intro Q hQ
    simp only [Try.ntmps22, List.size_toArray, List.length_cons, List.length_nil, Nat.reduceAdd, Nat.reduceSub, Array.replicate_succ, Array.replicate_zero, List.push_toArray, List.append_toArray, List.nil_append, List.cons_append]
    go_wp2
    refine ends_ret hQ (results_tmp rfl _ _ _) rfl ?_
    exact ⟨ret_int (by rw [hd.out, if_pos g]; simp), rfl⟩
  · refine calls_of_wpQ Try.func22 rfl ?_
    intro Q hQ
    simp only [Try.ntmps22, List.size_toArray, List.length_cons, List.length_nil, Nat.reduceAdd, Nat.reduceSub, Array.replicate_succ, Array.replicate_zero, List.push_toArray, List.append_toArray, List.nil_append, List.cons_append]
    go_wp2
    refine ends_ret hQ (results_tmp rfl _ _ _) rfl ?_
    exact ⟨ret_int (by rw [hd.out, if_neg g]; simp; omega), rfl⟩
theorem Is_any (s : ByteArray) (w : World) (hs : s.size ≤ 1099511627776) : Calls Try.prog 13 #[.string s] w fun e w' => e = .returned (.bool (s.data.toList.all isD && decide (s.size = 64))) ∧ w = w' := by
  have hmax : s.size ≤ 9223372036854775807 := by omega
  refine calls_of_wpQ Try.func13 rfl ?_
  intro Q hQ
  simp only [Try.ntmps13, List.size_toArray, List.length_cons, List.length_nil, Nat.reduceAdd, Nat.reduceSub, Array.replicate_succ, Array.replicate_zero, List.push_toArray, List.append_toArray, List.nil_append, List.cons_append]
  go_wp2
  go_loop [3] (fun i => ∃ k : Nat, k ≤ s.size ∧ i = .int .i64 k ∧ Hid (s.data.toList.all isD = (s.data.toList.drop k).all isD)) (fun i => s.size - (intOf i).toNat)
  case atStart => exact ⟨0, Nat.zero_le _, rfl, by simp [Hid]⟩
  case round =>
    obtain ⟨k, hk, rfl, hn⟩ := hrel
    by_cases hlt : k < s.size
    · obtain ⟨c, hc⟩ : ∃ c, s[k] = c := ⟨_, rfl⟩
      have hd : Hid (s.data.toList.drop k = c :: s.data.toList.drop (k + 1)) := by rw [← hc]; exact List.drop_eq_getElem_cons (by simpa using hlt)
      have hcb := c.toNat_lt
      rcases (by omega : c.toNat < 48 ∨ (48 ≤ c.toNat ∧ c.toNat ≤ 57) ∨ (57 < c.toNat ∧ c.toNat < 97) ∨ (97 ≤ c.toNat ∧ c.toNat ≤ 102) ∨ 102 < c.toNat) with g | ⟨g, g'⟩ | ⟨g, g'⟩ | ⟨g, g'⟩ | g
      · have d1 : decide ((48 : Int) ≤ c.toNat) = false := by simp; omega
        have d2 : decide ((c.toNat : Int) ≤ 57) = true := by simp; omega
        have d3 : decide ((97 : Int) ≤ c.toNat) = false := by simp; omega
        have d4 : decide ((c.toNat : Int) ≤ 102) = true := by simp; omega
        have dD : Hid (isD c = false) := by unfold Hid isD; simp; omega
        go_wp2
        refine ends_ret hQ (results_tmp rfl _ _ _) rfl ?_
        exact ⟨ret_bool (by rw [hn.out, hd.out, List.all_cons, dD.out]; simp), rfl⟩
      · have d1 : decide ((48 : Int) ≤ c.toNat) = true := by simp; omega
        have d2 : decide ((c.toNat : Int) ≤ 57) = true := by simp; omega
        have d3 : decide ((97 : Int) ≤ c.toNat) = false := by simp; omega
        have d4 : decide ((c.toNat : Int) ≤ 102) = true := by simp; omega
        have dD : Hid (isD c = true) := by unfold Hid isD; simp; omega
        go_wp2
        go_round
        case rel => exact ⟨k + 1, by omega, by go_num, by rw [Hid, hn.out, hd.out, List.all_cons, dD.out]; simp⟩
        case measure => simp [intOf]; omega
      · have d1 : decide ((48 : Int) ≤ c.toNat) = true := by simp; omega
        have d2 : decide ((c.toNat : Int) ≤ 57) = false := by simp; omega
        have d3 : decide ((97 : Int) ≤ c.toNat) = false := by simp; omega
        have d4 : decide ((c.toNat : Int) ≤ 102) = true := by simp; omega
        have dD : Hid (isD c = false) := by unfold Hid isD; simp; omega
        go_wp2
        refine ends_ret hQ (results_tmp rfl _ _ _) rfl ?_
        exact ⟨ret_bool (by rw [hn.out, hd.out, List.all_cons, dD.out]; simp), rfl⟩
      · have d1 : decide ((48 : Int) ≤ c.toNat) = true := by simp; omega
        have d2 : decide ((c.toNat : Int) ≤ 57) = false := by simp; omega
        have d3 : decide ((97 : Int) ≤ c.toNat) = true := by simp; omega
        have d4 : decide ((c.toNat : Int) ≤ 102) = true := by simp; omega
        have dD : Hid (isD c = true) := by unfold Hid isD; simp; omega
        go_wp2
        go_round
        case rel => exact ⟨k + 1, by omega, by go_num, by rw [Hid, hn.out, hd.out, List.all_cons, dD.out]; simp⟩
        case measure => simp [intOf]; omega
      · have d1 : decide ((48 : Int) ≤ c.toNat) = true := by simp; omega
        have d2 : decide ((c.toNat : Int) ≤ 57) = false := by simp; omega
        have d3 : decide ((97 : Int) ≤ c.toNat) = true := by simp; omega
        have d4 : decide ((c.toNat : Int) ≤ 102) = false := by simp; omega
        have dD : Hid (isD c = false) := by unfold Hid isD; simp; omega
        go_wp2
        refine ends_ret hQ (results_tmp rfl _ _ _) rfl ?_
        exact ⟨ret_bool (by rw [hn.out, hd.out, List.all_cons, dD.out]; simp), rfl⟩
    · have he : Hid (s.data.toList.drop k = []) := List.drop_eq_nil_of_le (by simp; omega)
      go_wp2
      refine ends_ret hQ (results_tmp rfl _ _ _) rfl ?_
      exact ⟨ret_bool (by rw [hn.out, he.out, List.all_nil, Bool.true_and, Bool.eq_iff_iff]; simp; omega), rfl⟩
theorem short_any (s : ByteArray) (n : Nat) (w : World) (hn : n ≤ 1000000) : Calls Try.prog 9 #[.string s, .int .i64 n] w fun e w' => e = .returned (.string (if n < s.size then s.extract 0 n else s)) ∧ w = w' := by
  by_cases g : n < s.size
  · refine calls_of_wpQ Try.func9 rfl ?_
    intro Q hQ
    simp only [Try.ntmps9, List.size_toArray, List.length_cons, List.length_nil, Nat.reduceAdd, Nat.reduceSub, Array.replicate_succ, Array.replicate_zero, List.push_toArray, List.append_toArray, List.nil_append, List.cons_append]
    go_wp2
    refine ends_ret hQ (results_tmp rfl _ _ _) rfl ?_
    exact ⟨by rw [if_pos g]; rfl, rfl⟩
  · refine calls_of_wpQ Try.func9 rfl ?_
    intro Q hQ
    simp only [Try.ntmps9, List.size_toArray, List.length_cons, List.length_nil, Nat.reduceAdd, Nat.reduceSub, Array.replicate_succ, Array.replicate_zero, List.push_toArray, List.append_toArray, List.nil_append, List.cons_append]
    go_wp2
    refine ends_ret hQ (results_tmp rfl _ _ _) rfl ?_
    exact ⟨by rw [if_neg g]; rfl, rfl⟩
theorem bits_and15 (n : Nat) (h : n < 256) : bits BinOp.and IntKind.u8 (n : Int) 15 = (n : Int) % 16 := by
  have : ∀ m : Fin 256, bits BinOp.and IntKind.u8 ((m.val : Nat) : Int) 15 = ((m.val : Nat) : Int) % 16 := by decide +kernel
  exact this ⟨n, h⟩
theorem digs_at (x : Int) (h0 : 0 ≤ x) (h : x < 16) (w : World) : (Instr.index 9 (.string ⟨#[48, 49, 50, 51, 52, 53, 54, 55, 56, 57, 97, 98, 99, 100, 101, 102]⟩) (.int .u8 x)).run Try.prog w = .ok (.int .u8 (dg x.toNat).toNat) w := by
  obtain ⟨n, rfl⟩ := Int.eq_ofNat_of_zero_le h0
  rcases (by omega : n = 0 ∨ n = 1 ∨ n = 2 ∨ n = 3 ∨ n = 4 ∨ n = 5 ∨ n = 6 ∨ n = 7 ∨ n = 8 ∨ n = 9 ∨ n = 10 ∨ n = 11 ∨ n = 12 ∨ n = 13 ∨ n = 14 ∨ n = 15) with h | h | h | h | h | h | h | h | h | h | h | h | h | h | h | h <;> subst h <;> kernel_rfl
theorem hexL_snoc (l : List UInt8) (c : UInt8) : hexL (l ++ [c]) = hexL l ++ [dg (c.toNat / 16), dg (c.toNat % 16)] := by
  unfold hexL; simp
theorem hexL_len (l : List UInt8) : (hexL l).length = 2 * l.length := by
  induction l with
  | nil => rfl
  | cons c l ih => unfold hexL at *; simp only [List.flatMap_cons, List.length_append, ih, List.length_cons, List.length_nil]; omega
theorem isb_keep {T e : TypeId} {B b : Nat} {bs : List Value} {w w' : World} (h : Lib.IsBuilder T e B b bs w) (hb : Below w.heap.size w w') : Lib.IsBuilder T e B b bs w' := by
  have k : ∀ p, Lib.BuilderAt T e B b p bs w → Lib.BuilderAt T e B b p bs w' := by
    rintro p ⟨h1, v, h2, h3, h4⟩
    have hlt : b < w.heap.size := Lib.BuilderAt.lt ⟨h1, v, h2, h3, h4⟩
    refine ⟨h1, v, (hb.block b hlt).trans h2, ?_, h4⟩
    obtain ⟨g1, g2⟩ := h3
    refine ⟨g1, ?_⟩
    rcases g2 with g2 | ⟨g, cap, cur, r1, r2, r3, r4⟩
    · exact .inl g2
    · have hg : g < w.heap.size := by
        rcases Nat.lt_or_ge g w.heap.size with h' | h'
        · exact h'
        · simp [Array.getElem?_eq_none h'] at r3
      exact .inr ⟨g, cap, cur, r1, r2, (hb.block g hg).trans r3, r4⟩
  rcases h with h | h
  · exact .inl (k _ h)
  · exact .inr (k _ h)
set_option maxHeartbeats 800000 in
theorem Hex_any (s : ByteArray) (w : World) (hs : s.size ≤ 1099511627776) : Calls Try.prog 10 #[.string s] w fun e w' => e = .returned (.string ⟨(hexL s.data.toList).toArray⟩) ∧ Below w.heap.size w w' := by
  have hmax : s.size ≤ 9223372036854775807 := by omega
  have hB0 : Hid (Lib.IsBuilder 38 5 w.heap.size w.heap.size (Lib.byteCells []) (w.alloc (.cells #[.pointer none, .slice none 0 0] 38))) := by
    refine .inl ⟨Nat.le_refl _, .slice none 0 0, heap_alloc_new w _, World.ownsRow_nil _ _ _ _, by simp [Value.ownBlock]⟩
  refine calls_of_wpQ Try.func10 rfl ?_
  intro Q hQ
  simp only [Try.ntmps10, List.size_toArray, List.length_cons, List.length_nil, Nat.reduceAdd, Nat.reduceSub, Array.replicate_succ, Array.replicate_zero, List.push_toArray, List.append_toArray, List.nil_append, List.cons_append]
  go_wp2
  go_loopw [7] (fun i wr => ∃ k : Nat, k ≤ s.size ∧ i = .int .i64 k ∧ Below w.heap.size w wr ∧ Hid (Lib.IsBuilder 38 5 w.heap.size w.heap.size (Lib.byteCells (hexL (s.data.toList.take k))) wr)) (fun i _ => s.size - (intOf i).toNat)
  case atStart => exact ⟨0, Nat.zero_le _, rfl, by go_grown, hB0⟩
  case round =>
    obtain ⟨k, hk, rfl, hb, hI⟩ := hrel
    by_cases hlt : k < s.size
    · obtain ⟨c, hc⟩ : ∃ c, s[k] = c := ⟨_, rfl⟩
      have hcb := c.toNat_lt
      have hki : (k : Int) < s.size := by omega
      have hk0 : (0 : Int) ≤ k := by omega
      have hA := bits_and15 c.toNat (by omega)
      have hI1 := digs_at ((c.toNat : Int) / 16) (by omega) (by omega)
      have hI2 := digs_at ((c.toNat : Int) % 16) (by omega) (by omega)
      obtain ⟨a, ha⟩ : ∃ a, dg ((c.toNat : Int) / 16).toNat = a := ⟨_, rfl⟩
      obtain ⟨b, hb'⟩ : ∃ b, dg ((c.toNat : Int) % 16).toNat = b := ⟨_, rfl⟩
      rw [ha] at hI1
      rw [hb'] at hI2
      have hsn : Hid (hexL (s.data.toList.take (k + 1)) = hexL (s.data.toList.take k) ++ [a, b]) := by
        rw [Hid, List.take_succ_eq_append_getElem (by simpa using hlt), hexL_snoc, ← ha, ← hb', show s.data.toList[k] = c from hc, show ((c.toNat : Int) / 16).toNat = c.toNat / 16 from by omega, show ((c.toNat : Int) % 16).toNat = c.toNat % 16 from by omega]
      have hcv : (convert 36 9 (.slice (some ⟨wr.heap.size, 0, none⟩) 2 2)).run Try.prog (wr.alloc (.cells #[.int .u8 a.toNat, .int .u8 b.toNat] 5)).drew = .ok (.string ⟨#[a, b]⟩) (wr.alloc (.cells #[.int .u8 a.toNat, .int .u8 b.toNat] 5)).drew := by
        refine run_convert_bytes_back _ 36 9 5 ⟨wr.heap.size, 0, none⟩ 2 [a, b] Try.underlying36 Try.underlying5 Try.underlying9 ?_
        intro j hj
        have hB := Blk.new wr 5 #[.int .u8 a.toNat, .int .u8 b.toNat]
        rw [add_plain, Nat.zero_add]
        refine (hB.cell j).trans ?_
        rcases (by simp at hj; omega : j = 0 ∨ j = 1) with rfl | rfl <;> rfl
      have hI' := hid_mk hI
      have hl2 := hexL_len (s.data.toList.take k)
      have hl3 : (s.data.toList.take k).length ≤ 1099511627776 := by simp; omega
      have hl4 : (Lib.byteCells (hexL (s.data.toList.take k))).length + 2 ≤ 140737488355328 := by rw [Lib.byteCells_length]; omega
      have hwz := hb.size
      clear hl2 hl3 ha hb'
      go_wp2_with fail
      go_still_tail 10, (by kernel_rfl)
      go_wp2_with ((go_at_call 20; refine (WriteString_any w.heap.size w.heap.size (Lib.byteCells (hexL (s.data.toList.take k))) ⟨#[a, b]⟩ _ (isb_keep hI'.out (by go_grown)) hl4 (by first | (simp only [World.size_alloc, World.size_drew]; omega) | omega)).mono ?_; rintro e w1 ⟨rfl, hI1, hb1⟩))
      have q1 : Below w.heap.size w w1 := Below.trans (by go_grown) hb1
      go_roundw
      case rel => exact ⟨k + 1, by omega, by go_num, q1, .inr (by rw [hsn.out, Lib.byteCells_append]; exact hI1)⟩
      case measure => simp [intOf]; omega
    · have hkk : k = s.size := by omega
      replace hkk := hid_mk hkk
      go_wp2_with (go_at_call 21; refine (Try.Builder_String_any w.heap.size w.heap.size (hexL (s.data.toList.take k)) _ hI.out hb.size).mono ?_; rintro e w1 ⟨rfl, hb1⟩)
      refine ends_ret hQ (results_tmp rfl _ _ _) rfl ?_
      exact ⟨by rw [hkk.out, List.take_of_length_le (by simp)]; rfl, hb.trans hb1⟩
theorem conv_reads {w : World} {B n c : Nat} {A : Option Addr} {l : List UInt8} (h : Reads w B 5 1 A n (Lib.byteCells l)) : (convert 36 9 (.slice A n c)).run Try.prog w = .ok (.string ⟨l.toArray⟩) w := by
  have hl : l.length = n := by have := h.1; rw [Lib.byteCells_length] at this; omega
  subst hl
  rcases Nat.eq_zero_or_pos l.length with h0 | h0
  · have hl : l = [] := List.eq_nil_of_length_eq_zero h0
    subst hl
    rcases A with _ | a
    · exact Lib.run_convert_nil_bytes w 36 9 5 c Try.underlying36 Try.underlying5 Try.underlying9
    · exact run_convert_bytes_back w 36 9 5 a c [] Try.underlying36 Try.underlying5 Try.underlying9 (fun j hj => by simp at hj)
  · obtain ⟨b, o, rfl, _, _, hc⟩ := h.2 h0
    exact run_convert_bytes_back w 36 9 5 ⟨b, o, none⟩ c l Try.underlying36 Try.underlying5 Try.underlying9 (fun j hj => by rw [add_plain]; exact hc j _ (by simp [Lib.byteCells, hj]))
theorem digit_int (x : Int) (w : World) (h0 : 0 ≤ x) (h : x < 16) : Calls Try.prog 22 #[.int .u8 x] w fun e w' => e = .returned (.int .u8 (dg x.toNat).toNat) ∧ w = w' := by
  obtain ⟨n, rfl⟩ := Int.eq_ofNat_of_zero_le h0
  exact digit_any n w (by omega)
theorem byte_one (l : List UInt8) : ∀ u ∈ Lib.byteCells l, u.oneCell' = true := by
  intro u hu
  unfold Lib.byteCells at hu
  simp only [List.mem_map] at hu
  obtain ⟨c, _, rfl⟩ := hu
  rfl
set_option maxHeartbeats 800000 in
theorem refHex_any (s : ByteArray) (w : World) (hs : s.size ≤ 1099511627776) : Calls Try.prog 11 #[.string s] w fun e w' => e = .returned (.string ⟨(hexL s.data.toList).toArray⟩) ∧ Below w.heap.size w w' := by
  have hmax : s.size ≤ 9223372036854775807 := by omega
  obtain ⟨i0, hi0, hz0, hz1, hz2⟩ := info_parts byteInfo
  have hown := World.ownsRow_lit (base := w.heap.size) (e := 5) (size := 1) w #[] 0 (Nat.le_refl _) (by unfold maxLen; omega) (by simp)
  refine calls_of_wpQ Try.func11 rfl ?_
  intro Q hQ
  simp only [Try.ntmps11, List.size_toArray, List.length_cons, List.length_nil, Nat.reduceAdd, Nat.reduceSub, Array.replicate_succ, Array.replicate_zero, List.push_toArray, List.append_toArray, List.nil_append, List.cons_append]
  go_wp2
  go_loopw [3, 4] (fun v i wr => ∃ k : Nat, k ≤ s.size ∧ i = .int .i64 k ∧ Below w.heap.size w wr ∧ wr.ownsRow w.heap.size 5 1 v (2 * k) (Lib.byteCells (hexL (s.data.toList.take k)))) (fun _ i _ => s.size - (intOf i).toNat)
  case atStart => exact ⟨0, Nat.zero_le _, rfl, by go_grown, hown⟩
  case round =>
    obtain ⟨k, hk, rfl, hb, hown1⟩ := hrel
    have hwz := hb.size
    obtain ⟨A1, cp1, rfl, hc11, hc12⟩ := own_slice hown1
    by_cases hlt : k < s.size
    · obtain ⟨c, hc⟩ : ∃ c, s[k] = c := ⟨_, rfl⟩
      have hcb := c.toNat_lt
      have hki : (k : Int) < s.size := by omega
      have hk0 : (0 : Int) ≤ k := by omega
      obtain ⟨a, ha⟩ : ∃ a, dg ((c.toNat : Int) / 16).toNat = a := ⟨_, rfl⟩
      obtain ⟨b, hb'⟩ : ∃ b, dg ((c.toNat : Int) % 16).toNat = b := ⟨_, rfl⟩
      have hsn : Hid (hexL (s.data.toList.take (k + 1)) = hexL (s.data.toList.take k) ++ [a, b]) := by
        rw [Hid, List.take_succ_eq_append_getElem (by simpa using hlt), hexL_snoc, ← ha, ← hb', show s.data.toList[k] = c from hc, show ((c.toNat : Int) / 16).toNat = c.toNat / 16 from by omega, show ((c.toNat : Int) % 16).toNat = c.toNat % 16 from by omega]
      replace ha := hid_mk ha
      replace hb' := hid_mk hb'
      have hnew := reads_new wr #[.int .u8 a.toNat, .int .u8 b.toNat] 5 2 1 wr.heap.size rfl
      replace hnew := hid_mk hnew
      have hw1 : IntKind.u8.wrap ((c.toNat : Int) / 16) = (c.toNat : Int) / 16 := IntWalk.u8_in _ (by omega)
      have hw2 : IntKind.u8.wrap ((c.toNat : Int) % 16) = (c.toNat : Int) % 16 := IntWalk.u8_in _ (by omega)
      have hw3 : ((c.toNat : Int)).tmod 16 = (c.toNat : Int) % 16 := Int.tmod_eq_emod_of_nonneg (by omega)
      have hownW := (hown1.alloc (.cells #[.int .u8 a.toNat, .int .u8 b.toNat] 5)).drew
      have hnewW : Reads (wr.alloc (.cells #[.int .u8 a.toNat, .int .u8 b.toNat] 5)).drew wr.heap.size 5 1 (some ⟨wr.heap.size, 0, none⟩) 2 [.int .u8 a.toNat, .int .u8 b.toNat] := hnew.out.to (by go_grown)
      have hbW : w.heap.size ≤ (wr.alloc (.cells #[.int .u8 a.toNat, .int .u8 b.toNat] 5)).drew.heap.size := by simp only [World.size_alloc, World.size_drew]; omega
      have k63 : 2 * k + 2 ≤ maxLen := by unfold maxLen; omega
      have kby : (2 * k + 2) * 1 ≤ 140737488355328 := by omega
      go_wp2_with fail
      go_region_held3 (fun _ => True) (trivial) (first | (go_at_call 22; refine (digit_int _ _ (by omega) (by omega)).mono ?_; (first | rw [ha.out] | rw [hb'.out]); rintro e w' ⟨rfl, rfl⟩) | (refine step_append_any _ (by rfl) (.tmp 12) (.tmp 23) 36 (by rfl) w.heap.size 5 i0 _ 1 1 Try.underlying36 hi0 hz0 hz1 hz2 rfl (by omega) (.slice A1 (2 * k) cp1) (2 * k) _ (by simp [Act.eval]) hownW wr.heap.size (some ⟨wr.heap.size, 0, none⟩) 2 2 [.int .u8 a.toNat, .int .u8 b.toNat] (by simp [Act.eval]) hnewW (byte_one [a, b]) k63 kby hbW ?_; intro v2 w2 hown2 hg2 hat2))
      all_goals
        have q2 : Below w.heap.size w w2 := Below.grown (by go_grown) hg2 (by first | (simp only [World.size_alloc, World.size_drew]; omega) | omega) (fun k hk => (hown1.lt k hk).1)
        go_wp2
        go_roundw
        case rel => exact ⟨k + 1, by omega, by go_num, q2, by rw [hsn.out, Lib.byteCells_append]; exact hown2⟩
        case measure => simp [intOf]; omega
    · have hkk : k = s.size := by omega
      replace hkk := hid_mk hkk
      have hcv := conv_reads (c := cp1) (Reads.of_own (B := w.heap.size) hown1)
      go_wp2
      refine ends_ret hQ (results_tmp rfl _ _ _) rfl ?_
      exact ⟨by rw [hkk.out, List.take_of_length_le (by simp)]; rfl, hb⟩
end Go.Proofs.Ytpfjfihfnplhfaa
