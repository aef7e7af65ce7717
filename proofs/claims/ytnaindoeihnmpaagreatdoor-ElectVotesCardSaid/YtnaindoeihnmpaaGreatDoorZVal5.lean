/-
  WHAT IS PROVED HERE: what the reference's Right, Bytes and Put hand back of a value: its bytes, if they are at most 131072. Conditions: the value's parts are of their kinds, it has at most 4000 values, 30 within one another; the library's table stands.
-/
import Derived.Test.YtnaindoeihnmpaaGreatDoorZGVal
import Derived.Test.YtnaindoeihnmpaaGreatDoorZVal4
import Derived.Test.YtnaindoeihnmpaaGreatDoorZOwnS
import Derived.Lib.BufferRead
import Derived.Lib.SlBytesConst
namespace Go.Proofs.YtnaindoeihnmpaaGreatDoor
open Go.RowKit

set_option maxRecDepth 100000 in
set_option maxHeartbeats 1600000 in
theorem RRight_any (d : Nat) (v : Vl) (cnt : Nat) (enc : List UInt8) (w : World) (h : VOk w (Lows w.heap.size) d v cnt enc) (hc : cnt ≤ 4000) (hd : d ≤ 30) :
    Calls Tryz.prog 81 #[valV v] w fun e w' => e = .returned (.int .i64 0) ∧ Below w.heap.size w w' := by
  obtain ⟨vk, vn, vs, vA, vm, vc⟩ := v
  have hX0 := hid_mk (Blk.new w 101 #[.int .i64 vk, .int .i64 vn, .string vs, .slice vA vm vc])
  have h0 : Hid (∀ w', Below w.heap.size w w' → VOk w' (Lows w.heap.size) d ⟨vk, vn, vs, vA, vm, vc⟩ cnt enc) := fun w' hb => h.below hb
  have hng : ¬ (4000 : Int) < (cnt : Int) := by omega
  unfold valV
  dsimp only
  refine calls_of_wpQ Tryz.func81 rfl ?_
  intro Q hQ
  simp only [Tryz.ntmps81, List.size_toArray, List.length_cons, List.length_nil, Nat.reduceAdd, Nat.reduceSub, Array.replicate_succ, Array.replicate_zero, List.push_toArray, List.append_toArray, List.nil_append, List.cons_append]
  go_wp2_with (first | (go_at_call 98; refine (Many_any d ⟨vk, vn, vs, vA, vm, vc⟩ cnt enc 4001 w.heap.size _ (h0.out _ (by go_grown)) (by simp) (by omega) (by omega)).mono ?_; rintro e w1 ⟨rfl, hb1⟩; have q1 := (after (w := w) hb1 (by go_grown)).1; have hX1 := hid_mk (hX0.out.keep hb1); obtain ⟨xl, x0, x1, x2, x3⟩ := blk4 hX1.out; clear hb1) | (go_at_call 99; refine (Deep_any d ⟨vk, vn, vs, vA, vm, vc⟩ cnt enc 31 w.heap.size _ (h0.out _ (by go_grown)) (by have := q1.size; omega) (by omega) (by omega)).mono ?_; rintro e w2 ⟨⟨r, rfl, r0, r1⟩, hb1⟩; have q2 := (after (w := w) hb1 (by go_grown)).1; have hX2 := hid_mk (hX1.out.keep hb1); clear xl x0 x1 x2 x3; obtain ⟨xl, x0, x1, x2, x3⟩ := blk4 hX2.out; clear hb1; have z1 : ¬ (30 : Int) < r := (by omega)) | (go_at_call 100; refine (rshaped_any d ⟨vk, vn, vs, vA, vm, vc⟩ cnt enc w.heap.size _ (h0.out _ (by go_grown)) (by have := q2.size; omega)).mono ?_; rintro e w3 ⟨rfl, hb1⟩; have q3 := (after (w := w) hb1 (by go_grown)).1; clear hb1))
  refine ends_ret hQ (results_tmp rfl _ _ _) rfl ?_
  exact ⟨rfl, q3⟩
theorem conv_bytes {w : World} {B n c : Nat} {A : Option Addr} {l : List UInt8} (h : Reads w B 5 1 A n (Lib.byteCells l)) : (convert 113 9 (.slice A n c)).run Tryz.prog w = .ok (.string ⟨l.toArray⟩) w := by
  have hl : l.length = n := by have := h.1; rw [Lib.byteCells_length] at this; omega
  subst hl
  rcases Nat.eq_zero_or_pos l.length with h0 | h0
  · have hl : l = [] := List.eq_nil_of_length_eq_zero h0
    subst hl
    rcases A with _ | a
    · exact Lib.run_convert_nil_bytes w 113 9 5 c Tryz.underlying113 Tryz.underlying5 Tryz.underlying9
    · exact run_convert_bytes_back w 113 9 5 a c [] Tryz.underlying113 Tryz.underlying5 Tryz.underlying9 (fun j hj => by simp at hj)
  · obtain ⟨b, o, rfl, _, _, hc⟩ := h.2 h0
    exact run_convert_bytes_back w 113 9 5 ⟨b, o, none⟩ c l Tryz.underlying113 Tryz.underlying5 Tryz.underlying9 (fun j hj => by rw [add_plain]; exact hc j _ (by simp [Lib.byteCells, hj]))
theorem own_mark (w : World) (B : Nat) (hB : B ≤ w.heap.size) (c : Int) : OwnM (w.alloc (.cells #[.int .u8 c] 5 (1, 2))) B 5 (.slice (some ⟨w.heap.size, 0, none⟩) 1 1) 1 [.int .u8 c] :=
  ⟨rfl, .inr ⟨w.heap.size, 1, #[.int .u8 c], (1, 2), rfl, hB, heap_alloc_new w _, .inr (Nat.le_refl _), Nat.le_refl _, by unfold maxLen; omega, rfl, rfl⟩⟩
theorem sc_bc (l : List UInt8) : Lib.strCells ⟨l.toArray⟩ = Lib.byteCells l := rfl
set_option maxRecDepth 100000 in
set_option maxHeartbeats 3200000 in
theorem Bytes_any : ∀ (d : Nat) (v : Vl) (cnt : Nat) (enc : List UInt8) (B : Nat) (w : World), VOk w (Lows B) d v cnt enc → B ≤ w.heap.size → TabB B w → enc.length ≤ 70368744177664 →
    Calls Tryz.prog 82 #[valV v] w fun e w' => e = .returned (.string ⟨enc.toArray⟩) ∧ Below w.heap.size w w'
  | 0, _, _, _, _, _, h => h.elim
  | d + 1, v, cnt, enc, B, w, h => by
    intro b3 ht hlen
    have htw : TabB w.heap.size w := ht.more b3
    rcases h with ⟨n, rfl, n0, n1, rfl, rfl⟩ | ⟨s, rfl, hs, rfl, rfl⟩ | ⟨A, m, cp, xs, rfl, hm4, hrow, hxs, rfl, rfl⟩
    · have hl := it_size n
      obtain ⟨c1, hc1⟩ : ∃ c, (⟨#[105]⟩ : ByteArray) ++ itB n = c := ⟨_, rfl⟩
      obtain ⟨c2, hc2⟩ : ∃ c, c1 ++ (⟨#[101]⟩ : ByteArray) = c := ⟨_, rfl⟩
      have hd2 : c2.data.toList = 105 :: (Lib.itoa n ++ [101]) := by rw [← hc2, ← hc1, dl_app, dl_app]; rfl
      have k1 := cat_to hc1 (by have : (⟨#[105]⟩ : ByteArray).size = 1 := rfl; simp at hlen; omega)
      have k2 := cat_to hc2 (by rw [← hc1, ByteArray.size_append]; have : (⟨#[105]⟩ : ByteArray).size = 1 := rfl; have : (⟨#[101]⟩ : ByteArray).size = 1 := rfl; simp at hlen; omega)
      replace hc1 := hid_mk hc1
      replace hc2 := hid_mk hc2
      replace hl := hid_mk hl
      replace hd2 := hid_mk hd2
      unfold valV numV
      dsimp only
      refine calls_of_wpQ Tryz.func82 rfl ?_
      intro Q hQ
      simp only [Tryz.ntmps82, List.size_toArray, List.length_cons, List.length_nil, Nat.reduceAdd, Nat.reduceSub, Array.replicate_succ, Array.replicate_zero, List.push_toArray, List.append_toArray, List.nil_append, List.cons_append]
      go_wp2_with (go_at_call 88; refine (FormatInt_any n _ n0 n1 (htw _ (by go_grown))).mono ?_; rintro e w1 ⟨rfl, hb1⟩; have q1 := (after (w := w) hb1 (by go_grown)).1; clear hb1)
      refine ends_ret hQ (results_tmp rfl _ _ _) rfl ?_
      exact ⟨by rw [← hd2.out]; rfl, q1⟩
    · have hl := it_size s.size
      obtain ⟨c1, hc1⟩ : ∃ c, itB s.size ++ (⟨#[58]⟩ : ByteArray) = c := ⟨_, rfl⟩
      obtain ⟨c2, hc2⟩ : ∃ c, c1 ++ s = c := ⟨_, rfl⟩
      have hd2 : c2.data.toList = Lib.itoa s.size ++ 58 :: s.data.toList := by rw [← hc2, ← hc1, dl_app, dl_app, List.append_assoc]; rfl
      have hsz2 : c2.size = (Lib.itoa s.size ++ 58 :: s.data.toList : List UInt8).length := by rw [← hd2]; rfl
      rw [← hsz2, ← hc2, ← hc1, ByteArray.size_append, ByteArray.size_append] at hlen
      have k1 := cat_to hc1 (by have : (⟨#[58]⟩ : ByteArray).size = 1 := rfl; omega)
      have k2 := cat_to hc2 (by rw [← hc1, ByteArray.size_append]; omega)
      replace hc1 := hid_mk hc1
      replace hc2 := hid_mk hc2
      replace hl := hid_mk hl
      replace hlen := hid_mk hlen
      replace hd2 := hid_mk hd2
      replace hsz2 := hid_mk hsz2
      unfold valV txtV
      dsimp only
      have hX := hid_mk (Blk.new w 101 #[.int .i64 2, .int .i64 0, .string s, .slice none 0 0])
      have x2 : (w.alloc (.cells #[.int .i64 2, .int .i64 0, .string s, .slice none 0 0] 101)).cell? ⟨w.heap.size, 2, none⟩ = some (.string s) := hX.out.cell 2
      refine calls_of_wpQ Tryz.func82 rfl ?_
      intro Q hQ
      simp only [Tryz.ntmps82, List.size_toArray, List.length_cons, List.length_nil, Nat.reduceAdd, Nat.reduceSub, Array.replicate_succ, Array.replicate_zero, List.push_toArray, List.append_toArray, List.nil_append, List.cons_append]
      go_wp2_with fail
      go_region_held3 (fun w' => w'.cell? ⟨w.heap.size, 2, none⟩ = some (.string s)) ((first | assumption | go_keep)) (first | (go_at_call 89; refine (Itoa_any s.size _ (by omega) (by omega) (htw _ (by go_grown))).mono ?_; rintro e w1 ⟨rfl, hb1⟩; have q1 := (after (w := w) hb1 (by go_grown)).1; have hX1 := hid_mk (hX.out.keep (after hb1 (by go_grown)).1); clear hb1 x2; have x2 := hX1.out.cell 2; have xl := hX1.out.lt; change _ = some (Value.string s) at x2))
      all_goals (try go_wp2)
      all_goals
        refine ends_ret hQ (results_tmp rfl _ _ _) rfl ?_
        exact ⟨by rw [← hd2.out]; rfl, by go_grown⟩
    · have hen : (108 :: (encN xs ++ [101]) : List UInt8).length = (encN xs).length + 2 := by simp
      rw [hen] at hlen
      obtain ⟨i0, hi0, hz0, hz1, hz2⟩ := info_parts byteInfo
      have hel := hid_mk (fun k => encN_le (xs := xs) k)
      have hcv0 : (convert 113 113 (.slice (some ⟨w.heap.size + 1, 0, none⟩) 1 1)).run Tryz.prog ((w.alloc (.cells #[.int .i64 3, .int .i64 0, .string ⟨#[]⟩, .slice A m cp] 101)).alloc (.cells #[.int .u8 108] 5)) = .ok (.slice (some ⟨w.heap.size + 1, 0, none⟩) 1 1) ((w.alloc (.cells #[.int .i64 3, .int .i64 0, .string ⟨#[]⟩, .slice A m cp] 101)).alloc (.cells #[.int .u8 108] 5 (1, 2))) := by
        have := Lib.run_convert_bytes_const (P := Tryz.prog) (w.alloc (.cells #[.int .i64 3, .int .i64 0, .string ⟨#[]⟩, .slice A m cp] 101)) 113 5 #[.int .u8 108] 1 1 Tryz.underlying113 Tryz.underlying5
        simpa using this
      have hown0 : Hid (OwnM ((w.alloc (.cells #[.int .i64 3, .int .i64 0, .string ⟨#[]⟩, .slice A m cp] 101)).alloc (.cells #[.int .u8 108] 5 (1, 2))) w.heap.size 5 (.slice (some ⟨w.heap.size + 1, 0, none⟩) ((encN (xs.take 0)).length + 1) 1) ((encN (xs.take 0)).length + 1) (Lib.byteCells (108 :: encN (xs.take 0)))) := by
        have := own_mark (w.alloc (.cells #[.int .i64 3, .int .i64 0, .string ⟨#[]⟩, .slice A m cp] 101)) w.heap.size (by simp) 108
        rw [World.size_alloc] at this
        exact this
      have q0 : Below w.heap.size w ((w.alloc (.cells #[.int .i64 3, .int .i64 0, .string ⟨#[]⟩, .slice A m cp] 101)).alloc (.cells #[.int .u8 108] 5 (1, 2))) := by go_grown
      unfold valV lstV
      dsimp only
      refine calls_of_wpQ Tryz.func82 rfl ?_
      intro Q hQ
      simp only [Tryz.ntmps82, List.size_toArray, List.length_cons, List.length_nil, Nat.reduceAdd, Nat.reduceSub, Array.replicate_succ, Array.replicate_zero, List.push_toArray, List.append_toArray, List.nil_append, List.cons_append]
      go_wp2
      clear hcv0
      go_loopw [3, 30] (fun b i wr => ∃ (k : Nat) (A : Option Addr) (c : Nat), k ≤ m ∧ i = .int .i64 k ∧ b = .slice A ((encN (xs.take k)).length + 1) c ∧ Below w.heap.size w wr ∧ Hid (OwnM wr w.heap.size 5 (.slice A ((encN (xs.take k)).length + 1) c) ((encN (xs.take k)).length + 1) (Lib.byteCells (108 :: encN (xs.take k))))) (fun _ i _ => m - (intOf i).toNat)
      case atStart => exact ⟨0, _, _, Nat.zero_le _, rfl, rfl, q0, hown0⟩
      case round =>
        obtain ⟨k, Ab, cb, hk, rfl, rfl, hb, own⟩ := hrel
        by_cases hlt : k < m
        · have hbB := hb.mono b3
          obtain ⟨b, o, x, rfl, hS, hbb, hmem, hd, c0, c1, c2, c3⟩ := (hrow.to hb.size (fun b h1 _ => hbB.block b h1) (fun _ h _ => h)).at_ hlt
          have hx := hid_mk ((hxs x hmem).below hbB)
          have hnx := hid_mk (encN_take hd.out)
          have hle := hid_mk (hel.out (k + 1))
          obtain ⟨xv, xc, xe⟩ := x
          obtain ⟨xk, xn, xs', xA, xm, xcp⟩ := xv
          dsimp only at c0 c1 c2 c3 hnx
          obtain ⟨E, hE⟩ : ∃ E, encN (xs.take k) = E := ⟨_, rfl⟩
          have hle2 : E.length + xe.length ≤ (encN xs).length := by have := hle.out; rw [hnx.out, hE, List.length_append] at this; exact this
          rw [hE] at own hnx
          rw [hE]
          replace hE := hid_mk hE
          obtain ⟨N, hN⟩ : ∃ N, E.length + 1 = N := ⟨_, rfl⟩
          rw [hN] at own
          rw [hN]
          have hNE : N ≤ 70368744177664 := by omega
          have hNx : N + xe.length ≤ 140737488355328 := by omega
          replace hN := hid_mk hN
          have hbs := hb.size
          have hbx := ba_size xe
          go_wp2_with (first | (go_at_call 82; refine (Bytes_any d ⟨xk, xn, xs', xA, xm, xcp⟩ xc xe B _ (hx.out.below (Below.mono (show Below wr.heap.size wr _ from by go_grown) (by omega))) (by simp; omega) ((ht.to hbB).to (Below.mono (show Below wr.heap.size wr _ from by go_grown) (by omega))) (by omega)).mono ?_; rintro e w1 ⟨rfl, hb1⟩; have q1 := hid_mk (after (w := w) hb1 (by go_grown)).1; have own1 := hid_mk (OwnM.below (own.out.alloc (.cells #[.int .i64 xk, .int .i64 xn, .string xs', .slice xA xm xcp] 101)) hb1); clear hb1) | (at_builtin; refine wpl_append_str rfl (.tmp 34) (.tmp 36) 113 9 rfl w.heap.size 5 i0 Tryz.underlying113 Tryz.underlying9 hi0 hz0 hz1 hz2 (.slice Ab N cb) N _ rfl own1.out ⟨xe.toArray⟩ rfl (by unfold maxLen; rw [hbx]; omega) (by rw [hbx]; exact hNx) q1.out.size ?_; intro v5 w5 own5 g5; obtain ⟨A5, c5, rfl, hc5, hc6⟩ := own5.slice; have q5 := hid_mk (q1.out.grown g5 q1.out.size (fun g hg => (own1.out.lt g hg).1)); replace own5 := hid_mk own5; clear g5))
          go_roundw
          case rel =>
            have hlx : ((encN (xs.take (k + 1))).length + 1) = N + (⟨xe.toArray⟩ : ByteArray).size := by rw [hnx.out, List.length_append, hbx]; have := hN.out; omega
            refine ⟨k + 1, A5, c5, by omega, by go_num, by rw [hlx, hbx], q5.out, ?_⟩
            rw [hlx]
            have := own5.out
            rw [sc_bc, ← Lib.byteCells_append, List.cons_append, ← hnx.out] at this
            exact this
          case measure => simp [intOf]; omega
        · have hke := hid_mk (show xs.take k = xs from List.take_of_length_le (by have := hrow.len; omega))
          rw [hke.out] at own
          rw [hke.out]
          obtain ⟨N, hN⟩ : ∃ N, (encN xs).length + 1 = N := ⟨_, rfl⟩
          rw [hN] at own
          rw [hN]
          have hNE : N ≤ 70368744177664 := by omega
          replace hN := hid_mk hN
          go_wp2_with (at_builtin; refine wpl_append_new rfl (.tmp 39) (.tmp 40) 113 rfl 5 i0 _ 1 Tryz.underlying113 hi0 hz0 hz1 hz2 rfl hb (.slice Ab N cb) N _ rfl own.out [.int .u8 101] 1 1 rfl _ rfl rfl (by intro u hu; simp at hu; subst hu; rfl) (by omega) (by omega) ?_; intro A5 c5 w5 own5 hc5 q5 st hs5; have hcv := conv_bytes (c := c5) (B := w.heap.size) (l := 108 :: (encN xs ++ [101])) (by have := own5.reads (B' := w.heap.size); rw [show Lib.byteCells (108 :: encN xs) ++ [Value.int .u8 101] = Lib.byteCells (108 :: (encN xs ++ [101])) from by rw [← List.cons_append, Lib.byteCells_append (108 :: encN xs)]; rfl] at this; exact this); replace own5 := hid_mk own5; replace q5 := hid_mk q5; clear st)
          refine ends_ret hQ (results_tmp rfl _ _ _) rfl ?_
          exact ⟨rfl, q5.out⟩
set_option maxRecDepth 100000 in
set_option maxHeartbeats 3200000 in
theorem RPut_any (d : Nat) (v : Vl) (cnt : Nat) (enc : List UInt8) (w : World) (h : VOk w (Lows w.heap.size) d v cnt enc) (hc : cnt ≤ 4000) (hd : d ≤ 30) (ht : Tab w) (hl : enc.length ≤ 70368744177664) :
    Calls Tryz.prog 71 #[valV v] w fun e w' => e = .returned (if enc.length ≤ 131072 then .tuple #[.string ⟨enc.toArray⟩, .int .i64 0] else .tuple #[.string ⟨#[]⟩, .int .i64 2]) ∧ Below w.heap.size w w' := by
  obtain ⟨vk, vn, vs, vA, vm, vc⟩ := v
  obtain ⟨L, hL⟩ : ∃ L, enc.length = L := ⟨_, rfl⟩
  obtain ⟨t, hts⟩ : ∃ t : ByteArray, ⟨enc.toArray⟩ = t := ⟨_, rfl⟩
  have htl : t.size = L := by rw [← hts, ba_size, hL]
  rw [hL] at hl ⊢
  rw [hts]
  have hX0 := hid_mk (Blk.new w 101 #[.int .i64 vk, .int .i64 vn, .string vs, .slice vA vm vc])
  have h0 : Hid (∀ w', Below w.heap.size w w' → VOk w' (Lows w.heap.size) d ⟨vk, vn, vs, vA, vm, vc⟩ cnt enc) := fun w' hb => h.below hb
  have h1 := hid_mk ((h.below (w' := w.alloc (.cells #[.int .i64 vk, .int .i64 vn, .string vs, .slice vA vm vc] 101)) (by go_grown)).to (S' := Lows (w.alloc (.cells #[.int .i64 vk, .int .i64 vn, .string vs, .slice vA vm vc] 101)).heap.size) (w' := w.alloc (.cells #[.int .i64 vk, .int .i64 vn, .string vs, .slice vA vm vc] 101)) (Nat.le_refl _) (fun _ _ _ => rfl) (fun b h hb => by exact hb))
  replace hL := hid_mk hL
  replace hts := hid_mk hts
  unfold valV
  dsimp only
  by_cases hLe : L ≤ 131072
  · have hz : ¬ (131072 : Int) < (t.size : Int) := by rw [htl]; omega
    refine calls_of_wpQ Tryz.func71 rfl ?_
    intro Q hQ
    simp only [Tryz.ntmps71, List.size_toArray, List.length_cons, List.length_nil, Nat.reduceAdd, Nat.reduceSub, Array.replicate_succ, Array.replicate_zero, List.push_toArray, List.append_toArray, List.nil_append, List.cons_append]
    go_wp2_with (first | (go_at_call 81; refine (RRight_any d ⟨vk, vn, vs, vA, vm, vc⟩ cnt enc _ h1.out hc hd).mono ?_; rintro e w1 ⟨rfl, hb1⟩; have q1 := (after (w := w) hb1 (by go_grown)).1; have hX1 := hid_mk (hX0.out.keep hb1); obtain ⟨xl, x0, x1, x2, x3⟩ := blk4 hX1.out; clear hb1) | (go_at_call 82; refine (Bytes_any d ⟨vk, vn, vs, vA, vm, vc⟩ cnt enc w.heap.size _ (h0.out _ (by go_grown)) (by have := q1.size; omega) (ht.bel (by go_grown)) (by rw [hL.out]; omega)).mono ?_; rw [hts.out]; rintro e w2 ⟨rfl, hb1⟩; have q2 := (after (w := w) hb1 (by go_grown)).1; clear hb1))
    refine ends_ret hQ (results_tmp2 rfl _ _ _) rfl ?_
    exact ⟨by rw [if_pos hLe]; rfl, q2⟩
  · have hz : (131072 : Int) < (t.size : Int) := by rw [htl]; omega
    refine calls_of_wpQ Tryz.func71 rfl ?_
    intro Q hQ
    simp only [Tryz.ntmps71, List.size_toArray, List.length_cons, List.length_nil, Nat.reduceAdd, Nat.reduceSub, Array.replicate_succ, Array.replicate_zero, List.push_toArray, List.append_toArray, List.nil_append, List.cons_append]
    go_wp2_with (first | (go_at_call 81; refine (RRight_any d ⟨vk, vn, vs, vA, vm, vc⟩ cnt enc _ h1.out hc hd).mono ?_; rintro e w1 ⟨rfl, hb1⟩; have q1 := (after (w := w) hb1 (by go_grown)).1; have hX1 := hid_mk (hX0.out.keep hb1); obtain ⟨xl, x0, x1, x2, x3⟩ := blk4 hX1.out; clear hb1) | (go_at_call 82; refine (Bytes_any d ⟨vk, vn, vs, vA, vm, vc⟩ cnt enc w.heap.size _ (h0.out _ (by go_grown)) (by have := q1.size; omega) (ht.bel (by go_grown)) (by rw [hL.out]; omega)).mono ?_; rw [hts.out]; rintro e w2 ⟨rfl, hb1⟩; have q2 := (after (w := w) hb1 (by go_grown)).1; clear hb1))
    refine ends_ret hQ (results_tmp2 rfl _ _ _) rfl ?_
    exact ⟨by rw [if_neg hLe]; rfl, q2⟩
end Go.Proofs.YtnaindoeihnmpaaGreatDoor
