/-
  WHAT IS PROVED HERE: what quorum.Text hands back, and the reference's Text of voters that may be. Condition: the voters are a slice of ints of at most 2^47 elements.
-/
import Derived.Test.YtfaigomhnhgjfaaDoorQuorumQ
import Derived.Test.YtfaigomhnhgjfaaDoorOpenS
import Derived.Test.YtfaigomhnhgjfaaDoorEnds
import Derived.Test.YtfaigomhnhgjfaaDoorShelf
import Derived.Lib.BufferRead
namespace Go.Proofs.YtfaigomhnhgjfaaDoor
open Go.RowKit

theorem strJ : (Tryd.prog.info? 9).map (fun i => (i.zero, i.size, i.bytes)) = some (some (.string ⟨#[]⟩), 1, 16) := by kernel_rfl
theorem byteJ : (Tryd.prog.info? 5).map (fun i => (i.zero, i.size, i.bytes)) = some (some (.int .u8 0), 1, 1) := by kernel_rfl
theorem info_partsN {P : Program} {t : TypeId} {z : Value} {b : Nat} (h : (P.info? t).map (fun i => (i.zero, i.size, i.bytes)) = some (some z, 1, b)) : ∃ i, P.info? t = some i ∧ i.zero = some z ∧ i.size = 1 ∧ i.bytes = b := by
  cases hi : P.info? t with
  | none => rw [hi] at h; simp at h
  | some i => rw [hi] at h; simp at h; exact ⟨i, rfl, h.1, h.2.1, h.2.2⟩
theorem vstr_one (xs : List ByteArray) : ∀ u ∈ xs.map vstr, u.oneCell' = true := by
  intro u hu
  obtain ⟨x, _, rfl⟩ := List.mem_map.1 hu
  rfl
theorem byte_one (l : List UInt8) : ∀ u ∈ Lib.byteCells l, u.oneCell' = true := by
  intro u hu
  unfold Lib.byteCells at hu
  simp only [List.mem_map] at hu
  obtain ⟨c, _, rfl⟩ := hu
  rfl
theorem conv_reads {w : World} {B n c : Nat} {A : Option Addr} {l : List UInt8} (h : Reads w B 5 1 A n (Lib.byteCells l)) : (convert 48 9 (.slice A n c)).run Tryd.prog w = .ok (.string ⟨l.toArray⟩) w := by
  have hl : l.length = n := by have := h.1; rw [Lib.byteCells_length] at this; omega
  subst hl
  rcases Nat.eq_zero_or_pos l.length with h0 | h0
  · have hl : l = [] := List.eq_nil_of_length_eq_zero h0
    subst hl
    rcases A with _ | a
    · exact Lib.run_convert_nil_bytes w 48 9 5 c Tryd.underlying48 Tryd.underlying5 Tryd.underlying9
    · exact run_convert_bytes_back w 48 9 5 a c [] Tryd.underlying48 Tryd.underlying5 Tryd.underlying9 (fun j hj => by simp at hj)
  · obtain ⟨b, o, rfl, _, _, hc⟩ := h.2 h0
    exact run_convert_bytes_back w 48 9 5 ⟨b, o, none⟩ c l Tryd.underlying48 Tryd.underlying5 Tryd.underlying9 (fun j hj => by rw [add_plain]; exact hc j _ (by simp [Lib.byteCells, hj]))
theorem sgn_nat {v : Int} (h : 1 ≤ v ∧ v ≤ 9) : ((sgn v).toNat : Int) = 48 + v := by
  have := num_sgn h
  unfold numB at this
  omega
theorem digits_at {xs : List Int} {k : Nat} {y : Int} (h : digits xs) (hd : xs.drop k = y :: xs.drop (k + 1)) : 1 ≤ y ∧ y ≤ 9 := by
  refine h y ?_
  have : y ∈ xs.drop k := by rw [hd]; exact List.mem_cons_self ..
  exact List.mem_of_mem_drop this
theorem take_snoc {α : Type} {xs : List α} {k : Nat} {y : α} (hd : xs.drop k = y :: xs.drop (k + 1)) : xs.take (k + 1) = xs.take k ++ [y] := by
  have hk : k < xs.length := by
    rcases Nat.lt_or_ge k xs.length with h' | h'
    · exact h'
    · rw [List.drop_eq_nil_of_le h'] at hd; cases hd
  have h2 : xs[k]'hk = y := by rw [List.drop_eq_getElem_cons hk] at hd; injection hd
  rw [List.take_succ_eq_append_getElem hk, h2]
/-- the voters' signs, a text each -/
def sgns (xs : List Int) : List ByteArray := xs.map fun v => ⟨#[sgn v]⟩
def RetT (w : World) (xs : List Int) (e : Ending) (w' : World) : Prop :=
  e = .returned (.tuple #[.string ⟨(if rightL xs then txtL xs else []).toArray⟩, .int .i64 (if rightL xs then 0 else 160)]) ∧ Below w.heap.size w w'
set_option maxHeartbeats 1600000 in
theorem Text_any (a : Option Addr) (len cap : Nat) (xs : List Int) (w : World) (B : Nat) (hm : len ≤ 140737488355328) (h : Ints w B a len xs) :
    Calls Tryd.prog 10 #[.slice a len cap] w (RetT w xs) := by
  have hlen := hid_mk h.len
  cases hr : rightL xs
  · have hR : Hid (∀ w', Below w.heap.size w w' → RetT w xs (.returned (.tuple #[.string ⟨#[]⟩, .int .i64 160])) w') := by
      intro w' hb
      unfold RetT
      rw [hr]
      exact ⟨rfl, hb⟩
    replace hr := hid_mk hr
    refine calls_of_wpQ Tryd.func10 rfl ?_
    intro Q hQ
    simp only [Tryd.ntmps10, List.size_toArray, List.length_cons, List.length_nil, Nat.reduceAdd, Nat.reduceSub, Array.replicate_succ, Array.replicate_zero, List.push_toArray, List.append_toArray, List.nil_append, List.cons_append]
    go_wp2_with fail
    refine (Right_any _ _ _ xs _ _ (by omega) h).mono ?_
    rw [hr.out]
    rintro e w2 ⟨rfl, rfl⟩
    go_wp2
    refine ends_ret hQ (results_tmp2 rfl _ _ _) rfl ?_
    exact hR.out _ (Below.refl _ _)
  have hR : Hid (∀ w', Below w.heap.size w w' → RetT w xs (.returned (.tuple #[.string ⟨(txtL xs).toArray⟩, .int .i64 0])) w') := by
    intro w' hb
    unfold RetT
    rw [hr]
    exact ⟨rfl, hb⟩
  have hdg := hid_mk (right_digits hr)
  have hl7 := hid_mk (right_len hr)
  replace hr := hid_mk hr
  obtain ⟨i0, hi0, hz0, hz1, hz2⟩ := info_partsN strJ
  have hlen7 : len ≤ 7 := by have := hl7.out; have := hlen.out; omega
  have hlen1 : 1 ≤ len := by have := hl7.out; have := hlen.out; omega
  refine calls_of_wpQ Tryd.func10 rfl ?_
  intro Q hQ
  simp only [Tryd.ntmps10, List.size_toArray, List.length_cons, List.length_nil, Nat.reduceAdd, Nat.reduceSub, Array.replicate_succ, Array.replicate_zero, List.push_toArray, List.append_toArray, List.nil_append, List.cons_append]
  go_wp2_with fail
  refine (Right_any _ _ _ xs _ _ (by omega) h).mono ?_
  rw [hr.out]
  rintro e w2 ⟨rfl, rfl⟩
  go_wp2
  go_loopw [4, 12] (fun ov iv wr => ∃ (k co : Nat) (Ao : Option Addr), iv = .int .i64 k ∧ k ≤ len ∧ ov = .slice Ao k co ∧ k ≤ co ∧ OwnM wr w.heap.size 9 (.slice Ao k co) k ((sgns (xs.take k)).map vstr) ∧ Hid (Below w.heap.size w wr)) (fun _ iv _ => len - (intOf iv).toNat)
  case atStart => exact ⟨0, 0, none, rfl, Nat.zero_le _, rfl, Nat.le_refl _, OwnM.nil, hid_mk (Below.refl _ _)⟩
  case round =>
    obtain ⟨k, co, Ao, rfl, hk, rfl, hkc, hown, hb⟩ := hrel
    by_cases hlt : k < len
    · obtain ⟨b, o, y, heq, hbl, hd, hc⟩ := (h.to hb.out).at_ hlt
      subst heq
      have hy := digits_at hdg.out hd.out
      have hsn := sgn_nat hy
      have hnx : Hid (sgns (xs.take (k + 1)) = sgns (xs.take k) ++ [⟨#[sgn y]⟩]) := by rw [Hid, take_snoc hd.out]; simp [sgns]
      have hw1 : IntKind.i64.wrap (48 + y) = ((sgn y).toNat : Int) := by rw [hsn]; exact IntWalk.i64_in _ (by omega)
      have hw2 : IntKind.u8.wrap ((sgn y).toNat : Int) = ((sgn y).toNat : Int) := IntWalk.u8_in _ (by omega)
      have hnew := reads_new wr #[.int .u8 (sgn y).toNat] 5 1 1 wr.heap.size rfl
      have hcv := conv_reads (c := 1) (l := [sgn y]) hnew
      have q1 : Below w.heap.size w (wr.alloc (.cells #[.int .u8 (sgn y).toNat] 5)) := hb.out.alloc hb.out.size _
      have own1 := hown.alloc (.cells #[.int .u8 (sgn y).toNat] 5)
      replace hnew := hid_mk hnew
      replace hsn := hid_mk hsn
      clear hown
      go_wp2_with (at_builtin; refine wpl_append_new rfl (.tmp 16) (.tmp 22) 47 rfl 9 i0 _ 16 Tryd.underlying47 hi0 hz0 hz1 hz2 rfl q1 (.slice Ao k co) k _ rfl own1 ([(⟨#[sgn y]⟩ : ByteArray)].map vstr) 1 1 rfl _ rfl (by simp [Act.eval]) (vstr_one _) (by omega) (by omega) ?_; intro A5 c5 w5 hown5 hc5 q5 st hs5; rw [← List.map_append, ← hnx.out] at hown5)
      go_roundw
      case rel => exact ⟨k + 1, c5, A5, by go_num, by omega, rfl, hc5, hown5, hid_mk q5⟩
      case measure => simp [intOf]; omega
    · obtain rfl : k = len := by omega
      have ht : xs.take k = xs := List.take_of_length_le (by have := hlen.out; omega)
      rw [ht] at hown
      obtain ⟨g, rfl, hg, hcs⟩ := hown.row (by omega)
      have hsl : Hid ((sgns xs).length = k) := by rw [Hid]; unfold sgns; rw [List.length_map, hlen.out]
      have hjt : Hid (Lib.join ((sgns xs).map (·.data.toList)) ((⟨#[44]⟩ : ByteArray).data.toList) = txtL xs) := by
        rw [Hid, ← join_txt]; unfold sgns; rw [List.map_map]; rfl
      have htl : (txtL xs).length ≤ 20 := by
        have h1 := (rd_txt xs (by rintro rfl; have := hl7.out; simp at this) hdg.out).2
        have h2 := hl7.out
        omega
      have hcs2 : Hid (∀ (j : Nat) (x : ByteArray), (sgns xs)[j]? = some x → wr.cell? ⟨g, 0 + j, none⟩ = some (.string x)) := by
        intro j x hx
        rw [Nat.zero_add]
        exact hcs j _ (by rw [List.getElem?_map, hx]; rfl)
      clear hcs
      replace htl := hid_mk htl
      replace ht := hid_mk ht
      go_wp2_with fail
      rw [← hsl.out]
      refine (Tryd.strings_Join g 0 co (sgns xs) ⟨#[44]⟩ _ hcs2.out hg (by rw [hsl.out]; omega) (by rw [hsl.out]; omega) (by rw [hjt.out]; have := htl.out; omega)).mono ?_
      rw [hjt.out]
      rintro e w3 ⟨rfl, hb3⟩
      go_wp2
      refine ends_ret hQ (results_tmp2 rfl _ _ _) rfl ?_
      exact hR.out _ (hb.out.trans (hb3.mono hb.out.size))
/-- what stands behind the first sign -/
def tailT : List Int → List UInt8
  | [] => []
  | v :: vs => 44 :: sgn v :: tailT vs
theorem txt_tail (v : Int) : ∀ vs, txtL (v :: vs) = sgn v :: tailT vs
  | [] => rfl
  | u :: vs => by rw [txtL, txt_tail u vs, tailT]
set_option maxHeartbeats 1600000 in
theorem refText_any (a : Option Addr) (len cap : Nat) (xs : List Int) (w : World) (B : Nat) (hr : rightL xs = true) (h : Ints w B a len xs) :
    Calls Tryd.prog 13 #[.slice a len cap] w fun e w' => e = .returned (.string ⟨(txtL xs).toArray⟩) ∧ Below w.heap.size w w' := by
  have hlen := hid_mk h.len
  have hdg := hid_mk (right_digits hr)
  have hl7 := hid_mk (right_len hr)
  replace hr := hid_mk hr
  obtain ⟨i0, hi0, hz0, hz1, hz2⟩ := info_partsN byteJ
  have hlen7 : len ≤ 7 := by have := hl7.out; have := hlen.out; omega
  have own0 : OwnM (w.alloc (.cells #[] 5)) w.heap.size 5 (.slice (some ⟨w.heap.size, 0, none⟩) 0 0) 0 (Lib.byteCells []) := (OwnM.of (World.ownsRow_lit (base := w.heap.size) (e := 5) (size := 1) w #[] 0 (Nat.le_refl _) (by unfold maxLen; omega) (by simp)))
  have hb0 : Hid (Below w.heap.size w (w.alloc (.cells #[] 5))) := (Below.refl _ _).alloc (Nat.le_refl _) _
  obtain ⟨T, hT⟩ : ∃ T, txtL xs = T := ⟨_, rfl⟩
  have hT0 : Hid (T = [] ++ (if 0 = 0 then txtL (xs.drop 0) else tailT (xs.drop 0))) := by rw [Hid, ← hT]; simp
  rw [hT]
  replace hT := hid_mk hT
  refine calls_of_wpQ Tryd.func13 rfl ?_
  intro Q hQ
  simp only [Tryd.ntmps13, List.size_toArray, List.length_cons, List.length_nil, Nat.reduceAdd, Nat.reduceSub, Array.replicate_succ, Array.replicate_zero, List.push_toArray, List.append_toArray, List.nil_append, List.cons_append]
  go_wp2
  go_loopw [3, 4, 5, 9] (fun ov _ _ iv wr => ∃ (k n co : Nat) (Ao : Option Addr) (acc : List UInt8), iv = .int .i64 k ∧ k ≤ len ∧ n ≤ 2 * k ∧ ov = .slice Ao n co ∧ n ≤ co ∧ OwnM wr w.heap.size 5 (.slice Ao n co) n (Lib.byteCells acc) ∧ Hid (T = acc ++ (if k = 0 then txtL (xs.drop k) else tailT (xs.drop k))) ∧ Hid (Below w.heap.size w wr)) (fun _ _ _ iv _ => len - (intOf iv).toNat)
  case atStart => exact ⟨0, 0, 0, _, [], rfl, Nat.zero_le _, Nat.le_refl _, rfl, Nat.le_refl _, own0, hT0, hb0⟩
  case round =>
    clear own0 hb0
    obtain ⟨k, n, co, Ao, acc, rfl, hk, hn, rfl, hnc, hown, hacc, hb⟩ := hrel
    by_cases hlt : k < len
    · obtain ⟨b, o, y, heq, hbl, hd, hc⟩ := (h.to hb.out).at_ hlt
      subst heq
      have hy := digits_at hdg.out hd.out
      have hsn := sgn_nat hy
      have hw1 : IntKind.i64.wrap (48 + y) = ((sgn y).toNat : Int) := by rw [hsn]; exact IntWalk.i64_in _ (by omega)
      have hw2 : IntKind.u8.wrap ((sgn y).toNat : Int) = ((sgn y).toNat : Int) := IntWalk.u8_in _ (by omega)
      replace hsn := hid_mk hsn
      rcases Nat.eq_zero_or_pos k with h0 | h0
      · subst h0
        rw [Nat.add_zero] at hc
        have hnx : Hid (T = (acc ++ [sgn y]) ++ (if 0 + 1 = 0 then txtL (xs.drop (0 + 1)) else tailT (xs.drop (0 + 1)))) := by
          rw [Hid, hacc.out, if_pos rfl, hd.out, txt_tail, if_neg (by omega)]; simp
        go_wp2_with (at_builtin; refine wpl_append_new rfl (.tmp 19) (.tmp 23) 48 rfl 5 i0 _ 1 Tryd.underlying48 hi0 hz0 hz1 hz2 rfl hb.out (.slice Ao n co) n _ rfl hown (Lib.byteCells [sgn y]) 1 1 rfl _ rfl (by simp [Act.eval]) (byte_one _) (by omega) (by omega) ?_; intro A5 c5 w5 hown5 hc5 q5 st hs5; rw [← Lib.byteCells_append] at hown5)
        go_roundw
        case rel => exact ⟨0 + 1, n + 1, c5, A5, acc ++ [sgn y], by go_num, by omega, by omega, rfl, hc5, hown5, hnx, hid_mk q5⟩
        case measure => simp [intOf]; omega
      · have hnx : Hid (T = ((acc ++ [44]) ++ [sgn y]) ++ (if k + 1 = 0 then txtL (xs.drop (k + 1)) else tailT (xs.drop (k + 1)))) := by
          rw [Hid, hacc.out, if_neg (by omega), hd.out, tailT, if_neg (by omega)]; simp
        have hk0 : (0 : Int) < k := by omega
        go_wp2_with (first | (at_builtin; refine wpl_append_new rfl (.tmp 16) (.tmp 17) 48 rfl 5 i0 _ 1 Tryd.underlying48 hi0 hz0 hz1 hz2 rfl hb.out (.slice Ao n co) n _ rfl hown (Lib.byteCells [44]) 1 1 rfl _ rfl (by simp [Act.eval]) (byte_one _) (by omega) (by omega) ?_; intro A4 c4 w4 hown4 hc4 q4 st4 hs4; rw [← Lib.byteCells_append] at hown4) | (at_builtin; refine wpl_append_new rfl (.tmp 19) (.tmp 23) 48 rfl 5 i0 _ 1 Tryd.underlying48 hi0 hz0 hz1 hz2 rfl q4 (.slice A4 (n + 1) c4) (n + 1) _ rfl hown4 (Lib.byteCells [sgn y]) 1 1 rfl _ rfl (by simp [Act.eval]) (byte_one _) (by omega) (by omega) ?_; intro A5 c5 w5 hown5 hc5 q5 st hs5; rw [← Lib.byteCells_append] at hown5))
        go_roundw
        case rel => exact ⟨k + 1, n + 1 + 1, c5, A5, (acc ++ [44]) ++ [sgn y], by go_num, by omega, by omega, rfl, hc5, hown5, hnx, hid_mk q5⟩
        case measure => simp [intOf]; omega
    · obtain rfl : k = len := by omega
      have hfin : Hid (T = acc) := by
        rw [Hid, hacc.out, List.drop_eq_nil_of_le (by have := hlen.out; omega), if_neg (by have := hl7.out; have := hlen.out; omega)]
        simp [tailT]
      have hcv := conv_reads (c := co) (hown.reads (B' := w.heap.size))
      go_wp2
      refine ends_ret hQ (results_tmp rfl _ _ _) rfl ?_
      exact ⟨by rw [hfin.out]; rfl, hb.out⟩
end Go.Proofs.YtfaigomhnhgjfaaDoor
