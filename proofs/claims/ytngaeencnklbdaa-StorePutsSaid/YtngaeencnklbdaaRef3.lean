/-
  WHAT IS PROVED HERE: what the reference's over and Of hand back. Conditions: texts of at most 2^47 - 4096 bytes.
-/
import Derived.Test.YtngaeencnklbdaaRef2
import Derived.Lib.BufferRead
namespace Go.Proofs.Ytngaeencnklbdaa
open Go.RowKit

theorem be4_cells_ (x : Int) (h0 : 0 ≤ x) (h1 : x < 4294967296) : (Lib.byteCells (be4 x)).toArray = #[.int .u8 (x / 16777216), .int .u8 (x / 65536 % 256), .int .u8 (x / 256 % 256), .int .u8 (x % 256)] := by
  unfold be4 Lib.byteCells
  simp [UInt8.toNat_ofNat']
  omega
theorem be4_one (x : Int) : ∀ u ∈ Lib.byteCells (be4 x), u.oneCell' = true := by
  intro u hu
  simp only [Lib.byteCells, List.mem_map] at hu
  obtain ⟨c, _, rfl⟩ := hu
  rfl
theorem conv_row_ {w : World} {B n c : Nat} {A : Option Addr} {l : List UInt8} (h : Reads w B 5 1 A n (Lib.byteCells l)) : (convert 67 9 (.slice A n c)).run Try.prog w = .ok (.string ⟨l.toArray⟩) w := by
  have hl : l.length = n := by have := h.1; rw [Lib.byteCells_length] at this; omega
  subst hl
  rcases Nat.eq_zero_or_pos l.length with h0 | h0
  · have hl : l = [] := List.eq_nil_of_length_eq_zero h0
    subst hl
    rcases A with _ | a
    · exact Lib.run_convert_nil_bytes w 67 9 5 c Try.underlying67 Try.underlying5 Try.underlying9
    · exact run_convert_bytes_back w 67 9 5 a c [] Try.underlying67 Try.underlying5 Try.underlying9 (fun j hj => by simp at hj)
  · obtain ⟨b, o, rfl, _, _, hc⟩ := h.2 h0
    exact run_convert_bytes_back w 67 9 5 ⟨b, o, none⟩ c l Try.underlying67 Try.underlying5 Try.underlying9 (fun j hj => by rw [add_plain]; exact hc j _ (by simp [Lib.byteCells, hj]))
theorem Reads.top {w : World} {B size n : Nat} {e : TypeId} {A : Option Addr} {xs : List Value} (h : Reads w B e size A n xs) : Reads w w.heap.size e size A n xs :=
  ⟨h.1, fun hn => by
    obtain ⟨b, o, ea, hlt, _, hc⟩ := h.2 hn
    exact ⟨b, o, ea, hlt, .inl hlt, hc⟩⟩
set_option maxHeartbeats 3200000 in
theorem over_any (s : ByteArray) (s0 : S8) (Ah : Option Addr) (ch : Nat) (Ak : Option Addr) (ck : Nat) (w : World) {B B' : Nat} (hs : s.size ≤ 140737488351232) (hok : okS s0) (F : List UInt8) (hF : s.data.toList ++ padL s.data.toList.length = F)
    (hh : Reads w B 62 1 Ah 8 ((s8L s0).map v32)) (hk : Reads w B' 62 1 Ak 64 (kK.map v32)) :
    Calls Try.prog 44 #[.string s, .slice Ah 8 ch, .slice Ak 64 ck] w fun e w' => e = .returned (.string ⟨(outL (eatN s0 F (F.length / 64))).toArray⟩) ∧ Below w.heap.size w w' := by
  obtain ⟨i0, hi0, hz0, hz1, hz2⟩ := info_parts byteJ
  have hF64 : F.length % 64 = 0 := by rw [← hF, List.length_append]; exact padL_full _
  have hFl : F.length ≤ 140737488355328 := by
    have := padL_len s.data.toList.length
    have h2 : padZ s.data.toList.length < 64 := by unfold padZ; omega
    have h3 : s.data.toList.length = s.size := rfl
    rw [← hF, List.length_append]; omega
  obtain ⟨q0, hq0⟩ : ∃ q, F.length = q := ⟨_, rfl⟩
  rw [hq0] at hF64 hFl ⊢
  replace hh := hid_mk hh
  replace hk := hid_mk hk
  replace hF := hid_mk hF
  replace hq0 := hid_mk hq0
  replace hF64 := hid_mk hF64
  refine calls_of_wpQ Try.func44 rfl ?_
  intro Q hQ
  simp only [Try.ntmps44, List.size_toArray, List.length_cons, List.length_nil, Nat.reduceAdd, Nat.reduceSub, Array.replicate_succ, Array.replicate_zero, List.push_toArray, List.append_toArray, List.nil_append, List.cons_append]
  go_wp2_with fail
  refine (Filled_any s _ (by omega)).mono ?_
  rw [hF.out]
  rintro e w1 ⟨A1, n1, c1, rfl, hc1, hR1, hb1⟩
  have hR1l : Hid (n1 = q0) := by have := hR1.1; rw [Lib.byteCells_length, hq0.out] at this; rw [Hid]; omega
  have hR1' : Hid (Reads w1 w.heap.size 5 1 A1 n1 (Lib.byteCells (F.drop (64 * 0)))) := by rw [Nat.mul_zero, List.drop_zero]; exact hR1
  have hh1 := hid_mk (hh.out.to hb1)
  replace hb1 := hid_mk hb1
  clear hR1
  go_wp2
  go_loopw [1, 7] (fun hv pv wr => ∃ (m q c : Nat) (A : Option Addr) (A' : Option Addr) (c' B1 B2 : Nat), pv = .slice A q c ∧ q ≤ c ∧ Hid (q + 64 * m = q0) ∧ hv = .slice A' 8 c' ∧ Hid (Reads wr B1 5 1 A q (Lib.byteCells (F.drop (64 * m)))) ∧ Hid (Reads wr B2 62 1 A' 8 ((s8L (eatN s0 F m)).map v32)) ∧ Hid (Below w.heap.size w wr)) (fun _ pv _ => lenV' pv)
  case atStart => exact ⟨0, n1, c1, A1, Ah, ch, _, _, rfl, hc1, by rw [Hid, hR1l.out]; omega, rfl, hR1', hh1, hb1⟩
  case round =>
    clear hR1l hR1' hh1 hb1 hc1
    obtain ⟨m, q, c, A, A', c', B1, B2, rfl, hc, hm, rfl, hR, hH, hb⟩ := hrel
    have h64 := hF64.out
    have hmv := hm.out
    have hqb : q ≤ 140737488355328 := by omega
    by_cases hlt : 0 < q
    · have h64q : 64 ≤ q := by omega
      have hk2 := hid_mk (hk.out.to hb.out)
      clear h64 hmv
      go_wp2_with fail
      refine (rblock_any _ A' c' Ak ck A q c _ _ hH.out.top hk2.out.top hR.out.top h64q hqb hc).mono ?_
      rintro e w2 ⟨A3, c3, rfl, hc3, hH3, hb2⟩
      have hsl := run_slice_from (P := Try.prog) (w := w2) 67 5 Try.underlying67 i0 hi0 1 hz1 A q c 64 (by omega) (by omega)
      have q2 := hid_mk (after (w := w) hb2 hb.out).1
      have hR2 := hid_mk (hR.out.to hb2)
      replace hH3 := hid_mk hH3
      clear hb2
      go_wp2
      go_roundw
      case rel =>
        refine ⟨m + 1, q - 64, c - 64, _, A3, c3, B1, _, rfl, by omega, by rw [Hid]; have := hm.out; omega, rfl, ?_, hH3, q2⟩
        have := hR2.out.cutA (k := 64) (cap := c) h64q hc
        rw [Nat.mul_one, ← bc_drop_, List.drop_drop] at this
        exact this
      case measure => simp [lenV']; omega
    · obtain rfl : q = 0 := by omega
      have hmq : Hid (m = q0 / 64) := by rw [Hid]; omega
      have hokS := okS_eatN hok F m
      obtain ⟨S, hS⟩ : ∃ S, eatN s0 F m = S := ⟨_, rfl⟩
      rw [hS] at hH hokS
      replace hS := hid_mk hS
      clear h64 hmv hlt
      obtain ⟨b, o, rfl, hbl, _, hcell⟩ := hH.out.2 (by omega)
      replace hcell := hid_mk hcell
      obtain ⟨wo, rfl⟩ : ∃ wo : World, wo = wr := ⟨_, rfl⟩
      have hown0 : OwnM (wo.alloc (.cells #[] 5)) wo.heap.size 5 (.slice (some ⟨wo.heap.size, 0, none⟩) 0 0) 0 [] := OwnM.of (World.ownsRow_lit (base := wo.heap.size) (e := 5) (size := 1) wo #[] 0 (Nat.le_refl _) (by unfold maxLen; omega) (by simp))
      go_wp2
      go_loopw [8, 25] (fun s' i wr => ∃ (k q c : Nat) (A : Option Addr), s' = .slice A q c ∧ q ≤ c ∧ Hid (q = 4 * k) ∧ k ≤ 8 ∧ i = .int .i64 k ∧ OwnM wr wo.heap.size 5 (.slice A q c) q (Lib.byteCells (((s8L S).take k).flatMap be4)) ∧ Hid (Below wo.heap.size wo wr)) (fun _ i _ => 8 - (intOf i).toNat)
      case atStart => exact ⟨0, 0, 0, _, rfl, Nat.le_refl _, rfl, by omega, rfl, hown0, hid_mk (by go_grown)⟩
      case round =>
        clear hown0
        obtain ⟨k, q, c, A, rfl, hc, hq, hk8, rfl, hown, hb4⟩ := hrel
        have hqb : q ≤ 32 := by have := hq.out; omega
        by_cases hlt : k < 8
        · obtain ⟨x, hx⟩ : ∃ x, (s8L S).getD k 0 = x := ⟨_, rfl⟩
          have hxb := okS_at hokS hlt
          rw [hx] at hxb
          obtain ⟨hx0, hx1⟩ := hxb
          have hcw : wr.cell? ⟨b, o + k, none⟩ = some (.int .u32 x) := ((bcell hb4.out).1 _ _ hbl).trans (hcell.out k _ (by rw [← hx, List.getElem?_map, List.getD_eq_getElem?_getD, List.getElem?_eq_getElem (show k < (s8L S).length from hlt)]; rfl))
          have htk : Hid (Lib.byteCells (((s8L S).take (k + 1)).flatMap be4) = Lib.byteCells (((s8L S).take k).flatMap be4) ++ Lib.byteCells (be4 x)) := by rw [Hid, outL_take hlt, hx, Lib.byteCells_append]
          have hbl4 : b < wr.heap.size := Nat.lt_of_lt_of_le hbl hb4.out.size
          have k0 : (0 : Int) ≤ k := by omega
          have k1 : (k : Int) < 8 := by omega
          replace hx := hid_mk hx
          go_wp2_with (at_builtin; refine wpl_append_new rfl (.tmp 29) (.tmp 44) 67 rfl 5 i0 _ 1 Try.underlying67 hi0 hz0 hz1 hz2 rfl hb4.out (.slice A q c) q _ rfl hown (Lib.byteCells (be4 x)) 4 4 rfl _ (be4_cells_ x hx0 hx1).symm (by simp [Act.eval]) (be4_one x) (by omega) (by omega) ?_; intro A5 c5 w5 hown5 hc5 q5 st hs5)
          go_roundw
          case rel => exact ⟨k + 1, q + 4, c5, A5, rfl, hc5, by rw [Hid, hq.out]; omega, by omega, by go_num, by rw [htk.out]; exact hown5, hid_mk q5⟩
          case measure => simp [intOf]; omega
        · obtain rfl : k = 8 := by omega
          have hcv := conv_row_ (c := c) (hown.reads (B' := w.heap.size))
          have q9 := hid_mk (hb.out.trans (hb4.out.mono hb.out.size))
          rw [show (s8L S).take 8 = s8L S from rfl] at hcv
          clear hlt hk8
          go_wp2
          refine ends_ret hQ (results_tmp rfl _ _ _) rfl ?_
          exact ⟨by rw [← hmq.out, hS.out]; rfl, q9.out⟩
end Go.Proofs.Ytngaeencnklbdaa
