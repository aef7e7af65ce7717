/-
  WHAT IS PROVED HERE: what digest.Parse hands back. No condition.
-/
import Derived.Test.YtpfjfihfnplhfaaDig1
namespace Go.Proofs.Ytpfjfihfnplhfaa
open Go.RowKit

theorem idx_val (c : UInt8) : Lib.indexByte [48, 49, 50, 51, 52, 53, 54, 55, 56, 57, 97, 98, 99, 100, 101, 102] c = if isD c then (dv c : Int) else -1 := by
  have : ∀ m : Fin 256, Lib.indexByte [48, 49, 50, 51, 52, 53, 54, 55, 56, 57, 97, 98, 99, 100, 101, 102] (UInt8.ofNat m.val) = if isD (UInt8.ofNat m.val) then (dv (UInt8.ofNat m.val) : Int) else -1 := by decide +kernel
  have h := this ⟨c.toNat, c.toNat_lt⟩
  simpa using h
theorem dv_lt {c : UInt8} (h : isD c = true) : dv c < 16 := by
  unfold isD at h
  unfold dv
  simp only [Bool.or_eq_true, Bool.and_eq_true, decide_eq_true_eq] at h
  split <;> omega
def ibv (c : UInt8) : Int := if isD c then (dv c : Int) else -1
theorem ib_gen (c : UInt8) (w : World) : Calls Try.prog 23 #[.string ⟨#[48, 49, 50, 51, 52, 53, 54, 55, 56, 57, 97, 98, 99, 100, 101, 102]⟩, .int .u8 c.toNat] w fun e w' => e = .returned (.int .i64 (ibv c)) ∧ w = w' := by
  refine (Try.strings_IndexByte ⟨#[48, 49, 50, 51, 52, 53, 54, 55, 56, 57, 97, 98, 99, 100, 101, 102]⟩ c.toNat w).mono ?_
  rintro e w' ⟨rfl, rfl⟩
  refine ⟨ret_int ?_, rfl⟩
  unfold ibv
  rw [← idx_val c]
  simp
theorem or_val (a b : Nat) (ha : a < 16) (hb : b < 16) : bits BinOp.or IntKind.i64 ((a : Int) * 16) (b : Int) = 16 * (a : Int) + b := by
  have : ∀ m n : Fin 16, bits BinOp.or IntKind.i64 (((m.val : Nat) : Int) * 16) ((n.val : Nat) : Int) = 16 * ((m.val : Nat) : Int) + ((n.val : Nat) : Int) := by decide +kernel
  exact this ⟨a, ha⟩ ⟨b, hb⟩
theorem pairs_snoc : ∀ {l : List UInt8} {k : Nat} {a b : UInt8}, l.length = 2 * k → pairs (l ++ [a, b]) = pairs l ++ [(16 * dv a + dv b).toUInt8]
  | [], _, _, _, _ => rfl
  | [x], k, _, _, h => by simp at h; omega
  | x :: y :: r, 0, _, _, h => by simp at h
  | x :: y :: r, k + 1, a, b, h => by
    have ih := pairs_snoc (l := r) (k := k) (a := a) (b := b) (by simp at h; omega)
    simp only [List.cons_append, pairs] at *
    rw [ih]
def parseV (l : List UInt8) : Value := if l.length = 64 ∧ l.all isD = true then .tuple #[.string ⟨(pairs l).toArray⟩, .int .i64 0] else .tuple #[.string ⟨#[]⟩, .int .i64 30]
theorem parse_no {l : List UInt8} {k : Nat} {c : UInt8} (h : l[k]? = some c) (hc : isD c = false) : parseV l = .tuple #[.string ⟨#[]⟩, .int .i64 30] := by
  unfold parseV
  rw [if_neg]
  rintro ⟨_, e⟩
  have := List.all_eq_true.1 e c (List.mem_of_getElem? h)
  rw [hc] at this
  cases this
set_option maxHeartbeats 1600000 in
theorem Parse_any (s : ByteArray) (w : World) : Calls Try.prog 12 #[.string s] w fun e w' => e = .returned (parseV s.data.toList) ∧ Below w.heap.size w w' := by
  by_cases h64 : s.size = 64
  case neg =>
    have h1 : ((s.size : Int) != 64) = true := by simp; omega
    have hz : Hid (parseV s.data.toList = .tuple #[.string ⟨#[]⟩, .int .i64 30]) := by unfold Hid parseV; rw [if_neg (by rintro ⟨e, _⟩; exact h64 (by simpa using e))]
    replace h64 := hid_mk h64
    refine calls_of_wpQ Try.func12 rfl ?_
    intro Q hQ
    simp only [Try.ntmps12, List.size_toArray, List.length_cons, List.length_nil, Nat.reduceAdd, Nat.reduceSub, Array.replicate_succ, Array.replicate_zero, List.push_toArray, List.append_toArray, List.nil_append, List.cons_append]
    go_wp2
    refine ends_ret hQ (results_tmp2 rfl _ _ _) rfl ?_
    exact ⟨by rw [hz.out]; rfl, Below.refl _ _⟩
  obtain ⟨i0, hi0, hz0, hz1, hz2⟩ := info_parts byteInfo
  have h1 : ((s.size : Int) != 64) = false := by simp; omega
  have hs64 : s.size ≤ 64 ∧ 64 ≤ s.size := by omega
  have hl64 : Hid (s.data.toList.length = 64) := by rw [Hid]; simpa using h64
  replace h64 := hid_mk h64
  obtain ⟨hsa, hsb⟩ := hs64
  refine calls_of_wpQ Try.func12 rfl ?_
  intro Q hQ
  simp only [Try.ntmps12, List.size_toArray, List.length_cons, List.length_nil, Nat.reduceAdd, Nat.reduceSub, Array.replicate_succ, Array.replicate_zero, List.push_toArray, List.append_toArray, List.nil_append, List.cons_append]
  go_wp2
  go_loopw [4, 5] (fun v i wr => ∃ k j : Nat, Hid (j = 2 * k) ∧ k ≤ 32 ∧ i = .int .i64 j ∧ Below w.heap.size w wr ∧ wr.ownsRow w.heap.size 5 1 v k (Lib.byteCells (pairs (s.data.toList.take (2 * k)))) ∧ Hid ((s.data.toList.take (2 * k)).all isD = true)) (fun _ i _ => 64 - (intOf i).toNat)
  case atStart => exact ⟨0, 0, rfl, by omega, rfl, Below.refl _ _, World.ownsRow_nil _ _ _ _, by simp [Hid]⟩
  case round =>
    obtain ⟨k, j, hj, hk, rfl, hb, hown1, hall⟩ := hrel
    have hj1 := hj.out
    have hwz := hb.size
    obtain ⟨A1, cp1, rfl, hc11, hc12⟩ := own_slice hown1
    by_cases hlt : k < 32
    · have k0 : (0 : Int) ≤ j := by omega
      have k1 : (j : Int) < s.size := by omega
      have k2 : (j : Int) + 1 < s.size := by omega
      have k3 : j < s.size := by omega
      have k4 : j + 1 < s.size := by omega
      have k5 : j < 64 := by omega
      have k6 : (0 : Int) ≤ (j : Int) + 1 := by omega
      have k7 : ((j : Int) + 1).toNat = j + 1 := by omega
      have k8 : IntKind.i64.wrap ((j : Int) + 1) = (j : Int) + 1 := IntWalk.i64_in _ (by omega)
      obtain ⟨c1, hc1⟩ : ∃ c, s[j] = c := ⟨_, rfl⟩
      obtain ⟨c2, hc2⟩ : ∃ c, s[j + 1] = c := ⟨_, rfl⟩
      have g1 : Hid (s.data.toList[j]? = some c1) := by rw [Hid, ← hc1, List.getElem?_eq_getElem (by simpa using k3)]; rfl
      have g2 : Hid (s.data.toList[j + 1]? = some c2) := by rw [Hid, ← hc2, List.getElem?_eq_getElem (by simpa using k4)]; rfl
      cases d1 : isD c1
      case false =>
        clear hj1
        have e1 : ibv c1 < 0 := by unfold ibv; rw [d1]; simp
        have hz := hid_mk (parse_no g1.out d1)
        replace d1 := hid_mk d1
        go_wp2_with fail
        go_region_held3 (fun _ => True) (trivial) (first | (go_at_call_of 23 (Value.int IntKind.u8 (c1.toNat : Int)); refine (ib_gen c1 _).mono ?_; rintro e w' ⟨rfl, rfl⟩) | (go_at_call_of 23 (Value.int IntKind.u8 (c2.toNat : Int)); refine (ib_gen c2 _).mono ?_; rintro e w' ⟨rfl, rfl⟩))
        all_goals
          go_wp2
          refine ends_ret hQ (results_tmp2 rfl _ _ _) rfl ?_
          exact ⟨by rw [hz.out]; rfl, by go_grown⟩
      have e1 : 0 ≤ ibv c1 ∧ ibv c1 = dv c1 := by unfold ibv; rw [d1]; simp
      have e2 := dv_lt d1
      obtain ⟨e1, e3⟩ := e1
      have e4 : ibv c1 < 16 := by omega
      cases d2 : isD c2
      case false =>
        clear hj1
        have e5 : ibv c2 < 0 := by unfold ibv; rw [d2]; simp
        have hz := hid_mk (parse_no g2.out d2)
        replace d1 := hid_mk d1
        replace d2 := hid_mk d2
        replace e3 := hid_mk e3
        go_wp2_with fail
        go_region_held3 (fun _ => True) (trivial) (first | (go_at_call_of 23 (Value.int IntKind.u8 (c1.toNat : Int)); refine (ib_gen c1 _).mono ?_; rintro e w' ⟨rfl, rfl⟩) | (go_at_call_of 23 (Value.int IntKind.u8 (c2.toNat : Int)); refine (ib_gen c2 _).mono ?_; rintro e w' ⟨rfl, rfl⟩))
        all_goals
          go_wp2
          refine ends_ret hQ (results_tmp2 rfl _ _ _) rfl ?_
          exact ⟨by rw [hz.out]; rfl, by go_grown⟩
      have e5 : 0 ≤ ibv c2 ∧ ibv c2 = dv c2 := by unfold ibv; rw [d2]; simp
      have e6 := dv_lt d2
      obtain ⟨e5, e7⟩ := e5
      have e8 : ibv c2 < 16 := by omega
      have hor := or_val (dv c1) (dv c2) e2 e6
      rw [← e3, ← e7] at hor
      have htk : Hid (s.data.toList.take (2 * (k + 1)) = s.data.toList.take (2 * k) ++ [c1, c2]) := by
        have h1 : j < s.data.toList.length := by simpa using k3
        have h2 : j + 1 < s.data.toList.length := by simpa using k4
        rw [Hid, ← hj1, show 2 * (k + 1) = j + 1 + 1 from by omega, List.take_succ_eq_append_getElem h2, List.take_succ_eq_append_getElem h1, List.append_assoc]
        have a1 : s.data.toList[j] = c1 := hc1
        have a2 : s.data.toList[j + 1] = c2 := hc2
        rw [a1, a2]; rfl
      have hall2 : Hid ((s.data.toList.take (2 * (k + 1))).all isD = true) := by rw [Hid, htk.out, List.all_append, hall.out]; simp [d1, d2]
      have hps : Hid (pairs (s.data.toList.take (2 * (k + 1))) = pairs (s.data.toList.take (2 * k)) ++ [(16 * dv c1 + dv c2).toUInt8]) := by
        rw [Hid, htk.out, pairs_snoc (k := k) (by rw [List.length_take]; have : s.data.toList.length = s.size := rfl; omega)]
      have hbyte : Hid (16 * ibv c1 + ibv c2 = (((16 * dv c1 + dv c2).toUInt8).toNat : Int)) := by
        rw [Hid, e3, e7]
        have : ((16 * dv c1 + dv c2).toUInt8).toNat = 16 * dv c1 + dv c2 := by simp [UInt8.toNat_ofNat']; omega
        rw [this]; omega
      have hwb : IntKind.u8.wrap (16 * ibv c1 + ibv c2) = 16 * ibv c1 + ibv c2 := IntWalk.u8_in _ (by omega)
      have hnew := hid_mk (reads_new wr #[.int .u8 (16 * ibv c1 + ibv c2)] 5 1 1 wr.heap.size rfl)
      clear hj1
      replace d1 := hid_mk d1
      replace d2 := hid_mk d2
      replace e3 := hid_mk e3
      replace e7 := hid_mk e7
      go_wp2_with fail
      go_region_held3 (fun _ => True) (trivial) (first | (go_at_call_of 23 (Value.int IntKind.u8 (c1.toNat : Int)); refine (ib_gen c1 _).mono ?_; rintro e w' ⟨rfl, rfl⟩) | (go_at_call_of 23 (Value.int IntKind.u8 (c2.toNat : Int)); refine (ib_gen c2 _).mono ?_; rintro e w' ⟨rfl, rfl⟩))
      all_goals
        go_wp2_with (at_builtin; refine wpList_append_any _ rfl (.tmp 30) (.tmp 36) _ rfl w.heap.size 5 i0 _ 1 1 Try.underlying36 hi0 hz0 hz1 hz2 rfl (by omega) _ k _ rfl ((hown1.alloc _).drew) wr.heap.size (some ⟨wr.heap.size, 0, none⟩) 1 1 [.int .u8 (16 * ibv c1 + ibv c2)] rfl (hnew.out.to (by go_grown)) (by intro u hu; simp at hu; subst hu; rfl) (by unfold maxLen; omega) (by omega) (by simp; omega) ?_; intro v2 w2 hown2 hg2 hat2)
        have q2 : Below w.heap.size w w2 := Below.grown (by go_grown) hg2 (by simp; omega) (fun k hk => (hown1.lt k hk).1)
        go_roundw
        case rel => exact ⟨k + 1, j + 2, by rw [Hid, hj.out]; omega, by omega, by go_num, q2, by rw [hps.out, Lib.byteCells_append]; have h := hown2; rw [hbyte.out] at h; exact h, hall2⟩
        case measure => simp [intOf]; omega
    · have hkk : k = 32 := by omega
      have hjj : 64 ≤ j := by omega
      subst hkk
      clear hj1
      have hcv := conv_reads (c := cp1) (Reads.of_own (B := w.heap.size) hown1)
      have hz : Hid (parseV s.data.toList = .tuple #[.string ⟨(pairs (s.data.toList.take (2 * 32))).toArray⟩, .int .i64 0]) := by
        have e : s.data.toList.take (2 * 32) = s.data.toList := List.take_of_length_le (by rw [hl64.out]; omega)
        unfold Hid parseV
        have ha := hall.out
        rw [e] at ha ⊢
        rw [if_pos ⟨hl64.out, ha⟩]
      go_wp2
      refine ends_ret hQ (results_tmp2 rfl _ _ _) rfl ?_
      exact ⟨by rw [hz.out]; rfl, hb⟩
end Go.Proofs.Ytpfjfihfnplhfaa
