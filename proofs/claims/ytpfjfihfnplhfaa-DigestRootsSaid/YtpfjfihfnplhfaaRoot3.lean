/-
  WHAT IS PROVED HERE: what the reference's root, primes and Slow hand back; the walk of the law DigestRoots. No condition.
-/
import Derived.Test.YtpfjfihfnplhfaaRootP
import Derived.Test.YtpfjfihfnplhfaaLaw03b
namespace Go.Proofs.Ytpfjfihfnplhfaa
open Go.RowKit

theorem rootN_true {want : List Nat} {cube : Bool} {k x : Nat} (h : aboveM (if cube then mulN (mulN (digN 4 (x + 2 ^ k)) (digN 4 (x + 2 ^ k))) (digN 4 (x + 2 ^ k)) else mulN (digN 4 (x + 2 ^ k)) (digN 4 (x + 2 ^ k))) want = true) : rootN want cube (k + 1) x = rootN want cube k x := by
  rw [rootN, h]
theorem rootN_false {want : List Nat} {cube : Bool} {k x : Nat} (h : aboveM (if cube then mulN (mulN (digN 4 (x + 2 ^ k)) (digN 4 (x + 2 ^ k))) (digN 4 (x + 2 ^ k)) else mulN (digN 4 (x + 2 ^ k)) (digN 4 (x + 2 ^ k))) want = false) : rootN want cube (k + 1) x = rootN want cube k (x + 2 ^ k) := by
  rw [rootN, h]
theorem prodN_len (bs : List Nat) : ∀ (l : List Nat) (i : Nat) (out : List Nat), (prodN bs l i out).length = out.length
  | [], _, _ => rfl
  | a :: r, i, out => by
    have hrow : ∀ (bs : List Nat) (j : Nat) (o : List Nat) (c : Nat), (rowN i a bs j o c).1.length = o.length := by
      intro bs
      induction bs with
      | nil => intros; rfl
      | cons b bs ih => intro j o c; rw [rowN, ih, List.length_set]
    rw [prodN, prodN_len bs r, List.length_set, hrow]
theorem mulN_len (a b : List Nat) : (mulN a b).length = a.length + b.length := by unfold mulN; rw [prodN_len, List.length_replicate]
theorem root_end (x : Nat) : IntKind.u32.wrap ((x : Int) % 4294967296) = ((x % 4294967296 : Nat) : Int) := by
  rw [IntWalk.u32_in _ (by omega)]; omega
set_option maxHeartbeats 3200000 in
theorem root_any (p : Nat) (cube : Bool) (tv : Int) (htv : tv = if cube then 3 else 2) (w : World) (hp : p ≤ 1000) :
    Calls Try.prog 26 #[.int .i64 p, .int .i64 tv] w fun e w' => e = .returned (.int .u32 (rootP p cube)) ∧ Below w.heap.size w w' := by
  obtain ⟨nw, hnw⟩ : ∃ n : Nat, (if cube then 6 else 4) = n := ⟨_, rfl⟩
  have hn6 : nw ≤ 6 := by rw [← hnw]; split <;> omega
  have t0 : 2 ≤ tv ∧ tv ≤ 3 := by rw [htv]; split <;> omega
  have t1 : 2 * tv = (nw : Int) := by rw [htv, ← hnw]; split <;> rfl
  have t1' : IntKind.i64.wrap (2 * tv) = (nw : Int) := by rw [t1]; exact IntWalk.i64_in _ (by omega)
  obtain ⟨R, hR⟩ : ∃ R, rootN (wantN p cube) cube 37 0 = R := ⟨_, rfl⟩
  have hRP : Hid (rootP p cube = R % 4294967296) := by rw [Hid, ← hR]; rfl
  obtain ⟨want, hwant⟩ : ∃ l, wantN p cube = l := ⟨_, rfl⟩
  rw [hwant] at hR
  have hwe : Hid (List.replicate nw 0 ++ digN 4 p = want) := by rw [Hid, ← hwant, ← hnw]; rfl
  have hwl : want.length ≤ 10 := by
    rw [← hwe.out, List.length_append, List.length_replicate]
    have := digN_len 4 p
    omega
  have hwl2 := hid_mk hwl
  replace hR := hid_mk hR
  replace hwant := hid_mk hwant
  replace hnw := hid_mk hnw
  replace htv := hid_mk htv
  clear hwl
  refine calls_of_wpQ Try.func26 rfl ?_
  intro Q hQ
  simp only [Try.ntmps26, List.size_toArray, List.length_cons, List.length_nil, Nat.reduceAdd, Nat.reduceSub, Array.replicate_succ, Array.replicate_zero, List.push_toArray, List.append_toArray, List.nil_append, List.cons_append]
  go_wp2_with fail
  refine (digits_any p _ (by omega)).mono ?_
  rintro e w1 ⟨A1, n1, c1, rfl, hc1, hr1, hb1, hd1, hl1⟩
  have hn1 : n1 ≤ 4 := by have := digN_len 4 p; omega
  replace hb1 := hid_mk hb1
  replace hl1 := hid_mk hl1
  go_wp2_with fail
  refine (shifted_any A1 n1 c1 _ nw _ hr1 hd1 (by omega) (by omega)).mono ?_
  rw [hwe.out]
  rintro e w2 ⟨A2, n2, c2, rfl, hc2, hr2, hb2, hd2, hl2⟩
  have q2 := hid_mk (after (w := w) hb2 hb1.out).1
  have hn2 : n2 ≤ 10 := by rw [← hl2]; exact hwl2.out
  replace hd2 := hid_mk hd2
  replace hr2 := hid_mk hr2
  replace hl2 := hid_mk hl2
  clear hb2 hb1 hr1 hd1 hl1
  go_wp2
  go_loopw [6, 7] (fun xv iv wr => ∃ (k x : Nat), xv = .int .i64 x ∧ iv = .int .i64 ((k : Int) - 1) ∧ k ≤ 37 ∧ x + 2 ^ k ≤ 137438953472 ∧ Hid (R = rootN want cube k x) ∧ Hid (Reads wr wr.heap.size 3 1 A2 n2 (want.map vnat)) ∧ Hid (Below w.heap.size w wr)) (fun _ iv _ => (intOf iv + 1).toNat)
  case atStart => exact ⟨37, 0, rfl, rfl, by omega, by omega, hR.out.symm, hr2, q2⟩
  case round =>
    clear hr2 q2
    obtain ⟨k, x, rfl, rfl, hk, hx, hrt, hr2, hb⟩ := hrel
    rcases Nat.eq_zero_or_pos k with rfl | hkp
    · have hxb : x ≤ 137438953472 := by omega
      have hre := root_end x
      have hRx : Hid (R = x) := hrt.out
      have e1 : ((x % 4294967296 : Nat) : Int) = ((R % 4294967296 : Nat) : Int) := by rw [hRx.out]
      rw [e1] at hre
      replace e1 := hid_mk e1
      clear hr2
      go_wp2
      refine ends_ret hQ (results_tmp rfl _ _ _) rfl ?_
      refine ⟨?_, hb.out⟩
      rw [hRP.out]
      show Ending.returned (.int .u32 ((R : Int) % 4294967296)) = _
      exact congrArg (fun z => Ending.returned (.int .u32 z)) (by omega)
    · obtain ⟨i, rfl⟩ : ∃ i, k = i + 1 := ⟨k - 1, by omega⟩
      clear t0 t1 t1'
      obtain ⟨T, hT⟩ : ∃ T, 2 ^ i = T := ⟨_, rfl⟩
      have hT2 : 2 ^ (i + 1) = 2 * T := by rw [Nat.pow_succ, hT, Nat.mul_comm]
      rw [hT2] at hx
      have e1 : ((i + 1 : Nat) : Int) - 1 = (i : Int) := by omega
      rw [e1]
      have i0 : (0 : Int) ≤ (i : Int) := by omega
      have i1 : (i : Int) ≤ 64 := by omega
      have s1 : (2 : Int) ^ i = (T : Int) := by rw [← hT, Int.natCast_pow]; rfl
      have s2 : IntKind.i64.wrap ((2 : Int) ^ i) = (T : Int) := by rw [s1]; exact IntWalk.i64_in _ (by omega)
      have s3 : IntKind.i64.wrap (T : Int) = (T : Int) := IntWalk.i64_in _ (by omega)
      obtain ⟨y, hy⟩ : ∃ y, x + T = y := ⟨_, rfl⟩
      have s4 : (x : Int) + (T : Int) = (y : Int) := by omega
      have s5 : IntKind.i64.wrap ((x : Int) + (T : Int)) = (y : Int) := by rw [s4]; exact IntWalk.i64_in _ (by omega)
      have s6 : IntKind.u64.wrap (i : Int) = (i : Int) := IntWalk.u64_in _ (by omega)
      have s7 : IntKind.i64.wrap ((i : Int) - 1) = (i : Int) - 1 := IntWalk.i64_in _ (by omega)
      obtain ⟨D, hD⟩ : ∃ D, digN 4 y = D := ⟨_, rfl⟩
      have hDl : Hid (D.length ≤ 4) := by rw [Hid, ← hD]; exact digN_len 4 y
      obtain ⟨Q, hQm⟩ : ∃ Q, mulN D D = Q := ⟨_, rfl⟩
      have hQl : Hid (Q.length ≤ 8) := by rw [Hid, ← hQm, mulN_len]; have := hDl.out; omega
      obtain ⟨QQ, hQ3⟩ : ∃ q, (if cube then mulN Q D else Q) = q := ⟨_, rfl⟩
      obtain ⟨bb, hab⟩ : ∃ b, aboveM QQ want = b := ⟨_, rfl⟩
      have hab2 : Hid (aboveM (if cube then mulN (mulN (digN 4 (x + 2 ^ i)) (digN 4 (x + 2 ^ i))) (digN 4 (x + 2 ^ i)) else mulN (digN 4 (x + 2 ^ i)) (digN 4 (x + 2 ^ i))) want = bb) := by rw [Hid, hT, hy, hD, hQm, hQ3, hab]
      have hTy : Hid (x + 2 ^ i = y) := by rw [Hid, hT, hy]
      have hQ3l : Hid (QQ.length ≤ 12) := by
        rw [Hid, ← hQ3]
        have h1 := hDl.out
        have h2 := hQl.out
        split
        · rw [mulN_len]; omega
        · omega
      have hylt : y ≤ 137438953472 := by omega
      have hyT : y + T ≤ 137438953472 := by omega
      have hxT : x + T ≤ 137438953472 := by omega
      have hi37 : i ≤ 37 := by omega
      replace hT := hid_mk hT
      replace hy := hid_mk hy
      replace hD := hid_mk hD
      replace hQm := hid_mk hQm
      replace hQ3 := hid_mk hQ3
      replace hab := hid_mk hab
      replace hd2 := hd2
      clear hT2 hk hx hkp e1
      cases cube
      · have htv' : tv = 2 := htv.out
        subst htv'
        go_wp2_with fail
        refine (digits_any y _ (by omega)).mono ?_
        rw [hD.out]
        rintro e w3 ⟨A3, n3, c3, rfl, hc3, hr3, hb3, hd3, hl3⟩
        have hn3 : n3 ≤ 4 := by have := hDl.out; omega
        have q3 := hid_mk (after (w := w) hb3 hb.out).1
        have hr2b := topR (hr2.out.to hb3)
        replace hd3 := hid_mk hd3
        replace hl3 := hid_mk hl3
        replace hr3 := hid_mk hr3
        replace hr2b := hid_mk hr2b
        clear hb3 hb hr2
        go_wp2_with fail
        refine (product_any A3 n3 c3 D A3 n3 c3 D _ hr3.out hr3.out (by omega) (by omega) hd3.out hd3.out).mono ?_
        rw [hQm.out]
        rintro e w4 ⟨A4, n4, c4, rfl, hc4, hr4, hb4, hd4, hl4⟩
        have hn4 : n4 ≤ 8 := by have := hQl.out; omega
        have q4 := hid_mk (after (w := w) hb4 q3.out).1
        have hr2c := hid_mk (topR (hr2b.out.to hb4))
        have hr3c := hid_mk (topR (hr3.out.to hb4))
        replace hd4 := hid_mk hd4
        replace hl4 := hid_mk hl4
        replace hr4 := hid_mk hr4
        clear hb4 q3 hr2b hr3
        obtain rfl : Q = QQ := by have h := hQ3.out; simpa using h
        have q5 := q4
        have hr2d := hr2c
        go_wp2_with fail
        refine (above_any_ A4 n4 c4 Q A2 n2 c2 want _ hr4.out hr2d.out (by omega) (by omega) hd4.out hd2.out).mono ?_
        rw [hab.out]
        rintro e w6 ⟨rfl, hb6⟩
        have q6 := hid_mk (after (w := w) hb6 q5.out).1
        have hr2e : Hid (Reads w6 w6.heap.size 3 1 A2 n2 (want.map vnat)) := topR (hr2d.out.to hb6)
        clear hb6
        cases bb
        · have hrt2 : Hid (R = rootN want false i y) := by rw [Hid, hrt.out, rootN_false (by have h := hab2.out; simpa using h), hTy.out]
          go_wp2
          go_roundw
          case rel => exact ⟨i, y, rfl, rfl, by omega, by rw [hT.out]; omega, hrt2, hr2e, q6⟩
          case measure => simp [intOf] <;> omega
        · have hrt2 : Hid (R = rootN want false i x) := by rw [Hid, hrt.out, rootN_true (by have h := hab2.out; simpa using h)]
          go_wp2
          go_roundw
          case rel => exact ⟨i, x, rfl, rfl, by omega, by rw [hT.out]; omega, hrt2, hr2e, q6⟩
          case measure => simp [intOf] <;> omega
      · have htv' : tv = 3 := htv.out
        subst htv'
        go_wp2_with fail
        refine (digits_any y _ (by omega)).mono ?_
        rw [hD.out]
        rintro e w3 ⟨A3, n3, c3, rfl, hc3, hr3, hb3, hd3, hl3⟩
        have hn3 : n3 ≤ 4 := by have := hDl.out; omega
        have q3 := hid_mk (after (w := w) hb3 hb.out).1
        have hr2b := topR (hr2.out.to hb3)
        replace hd3 := hid_mk hd3
        replace hl3 := hid_mk hl3
        replace hr3 := hid_mk hr3
        replace hr2b := hid_mk hr2b
        clear hb3 hb hr2
        go_wp2_with fail
        refine (product_any A3 n3 c3 D A3 n3 c3 D _ hr3.out hr3.out (by omega) (by omega) hd3.out hd3.out).mono ?_
        rw [hQm.out]
        rintro e w4 ⟨A4, n4, c4, rfl, hc4, hr4, hb4, hd4, hl4⟩
        have hn4 : n4 ≤ 8 := by have := hQl.out; omega
        have q4 := hid_mk (after (w := w) hb4 q3.out).1
        have hr2c := hid_mk (topR (hr2b.out.to hb4))
        have hr3c := hid_mk (topR (hr3.out.to hb4))
        replace hd4 := hid_mk hd4
        replace hl4 := hid_mk hl4
        replace hr4 := hid_mk hr4
        clear hb4 q3 hr2b hr3
        go_wp2_with fail
        refine (product_any A4 n4 c4 Q A3 n3 c3 D _ hr4.out hr3c.out (by omega) (by omega) hd4.out hd3.out).mono ?_
        rw [show mulN Q D = QQ from by have h := hQ3.out; simpa using h]
        rintro e w5 ⟨A5, n5, c5, rfl, hc5, hr5, hb5, hd5, hl5⟩
        have hn5 : n5 ≤ 12 := by have := hQ3l.out; omega
        have q5 := hid_mk (after (w := w) hb5 q4.out).1
        have hr2d := hid_mk (topR (hr2c.out.to hb5))
        replace hd5 := hid_mk hd5
        replace hl5 := hid_mk hl5
        replace hr5 := hid_mk hr5
        clear hb5 q4 hr2c hr3c hr4
        go_wp2_with fail
        refine (above_any_ A5 n5 c5 QQ A2 n2 c2 want _ hr5.out hr2d.out (by omega) (by omega) hd5.out hd2.out).mono ?_
        rw [hab.out]
        rintro e w6 ⟨rfl, hb6⟩
        have q6 := hid_mk (after (w := w) hb6 q5.out).1
        have hr2e : Hid (Reads w6 w6.heap.size 3 1 A2 n2 (want.map vnat)) := topR (hr2d.out.to hb6)
        clear hb6
        cases bb
        · have hrt2 : Hid (R = rootN want true i y) := by rw [Hid, hrt.out, rootN_false (by have h := hab2.out; simpa using h), hTy.out]
          go_wp2
          go_roundw
          case rel => exact ⟨i, y, rfl, rfl, by omega, by rw [hT.out]; omega, hrt2, hr2e, q6⟩
          case measure => simp [intOf] <;> omega
        · have hrt2 : Hid (R = rootN want true i x) := by rw [Hid, hrt.out, rootN_true (by have h := hab2.out; simpa using h)]
          go_wp2
          go_roundw
          case rel => exact ⟨i, x, rfl, rfl, by omega, by rw [hT.out]; omega, hrt2, hr2e, q6⟩
          case measure => simp [intOf] <;> omega
theorem primeB_false (p : Nat) : ∀ l, primeB p l false = false
  | [] => rfl
  | q :: r => by unfold primeB; rw [Bool.false_and]; exact primeB_false p r
theorem primesN_yes {f n p : Nat} {out : List Nat} (h : out.length < n) (hb : primeB p out true = true) : primesN (f + 1) n p out = primesN f n (p + 1) (out ++ [p]) := by
  rw [primesN, if_pos h, hb]
theorem primesN_no {f n p : Nat} {out : List Nat} (h : out.length < n) (hb : primeB p out true = false) : primesN (f + 1) n p out = primesN f n (p + 1) out := by
  rw [primesN, if_pos h, hb]
set_option maxHeartbeats 1600000 in
theorem primes_any (n : Nat) (L : List Nat) (hL : primesN 400 n 2 [] = some L) (w : World) (hn : n ≤ 1000) :
    Calls Try.prog 25 #[.int .i64 n] w (fun e w' => ∃ A c, e = .returned (.slice A L.length c) ∧ L.length ≤ c ∧ Reads w' 0 3 1 A L.length (L.map vnat) ∧ Below w.heap.size w w') := by
  obtain ⟨j0, hj0, hjz, hj1, hj2⟩ := info_parts8_ intJ_
  have own0 : OwnM (w.alloc (.cells #[] 3)) w.heap.size 3 (.slice (some ⟨w.heap.size, 0, none⟩) 0 0) 0 (([] : List Nat).map vnat) := (OwnM.of (World.ownsRow_lit (base := w.heap.size) (e := 3) (size := 1) w #[] 0 (Nat.le_refl _) (by unfold maxLen; omega) (by simp)))
  have hb0 : Hid (Below w.heap.size w (w.alloc (.cells #[] 3))) := (Below.refl _ _).alloc (Nat.le_refl _) _
  replace hL := hid_mk hL
  refine calls_of_wpQ Try.func25 rfl ?_
  intro Q hQ
  simp only [Try.ntmps25, List.size_toArray, List.length_cons, List.length_nil, Nat.reduceAdd, Nat.reduceSub, Array.replicate_succ, Array.replicate_zero, List.push_toArray, List.append_toArray, List.nil_append, List.cons_append]
  go_wp2
  go_loopw [3, 4] (fun o pv wr => ∃ (p f k co : Nat) (Ao : Option Addr) (outs : List Nat), pv = .int .i64 p ∧ p + f = 402 ∧ 2 ≤ p ∧ k + f ≤ 400 ∧ o = .slice Ao k co ∧ k ≤ co ∧ OwnM wr w.heap.size 3 (.slice Ao k co) k (outs.map vnat) ∧ Hid (primesN f n p outs = some L) ∧ Hid (∀ q ∈ outs, 2 ≤ q ∧ q ≤ 402) ∧ Hid (Below w.heap.size w wr)) (fun _ pv _ => 402 - (intOf pv).toNat)
  case atStart => exact ⟨2, 400, 0, 0, _, [], rfl, by omega, by omega, by omega, rfl, Nat.le_refl _, own0, hL.out, by simp [Hid], hb0⟩
  case round =>
    clear own0 hb0 hL
    obtain ⟨p, f, k, co, Ao, outs, rfl, hpf, hp2, hkf, rfl, hkc, hown, hpr, hbd, hb⟩ := hrel
    have hol : outs.length = k := by have := hown.1; simpa using this
    obtain ⟨f, rfl⟩ : ∃ g, f = g + 1 := by
      cases f with
      | zero => have h := hpr.out; unfold primesN at h; cases h
      | succ g => exact ⟨g, rfl⟩
    by_cases hlt : k < n
    · have hlt' : outs.length < n := by omega
      obtain ⟨pb, hpb⟩ : ∃ b, primeB p outs true = b := ⟨_, rfl⟩
      have hrd : Reads wr wr.heap.size 3 1 Ao k (outs.map vnat) := hown.reads
      have hnx : Hid (primesN f n (p + 1) (if pb then outs ++ [p] else outs) = some L) := by
        rw [Hid]
        have h := hpr.out
        cases pb
        · rw [primesN_no hlt' hpb] at h; simpa using h
        · rw [primesN_yes hlt' hpb] at h; simpa using h
      replace hpb := hid_mk hpb
      replace hol := hid_mk hol
      replace hrd := hid_mk hrd
      have hlt1 : (k : Int) < n := by omega
      have hwrap : IntKind.i64.wrap ((p : Int) + 1) = (p : Int) + 1 := IntWalk.i64_in _ (by omega)
      clear hlt' hpr
      obtain ⟨wo, hwo⟩ : ∃ wo : World, wo = wr := ⟨_, rfl⟩
      go_wp2
      go_loopw [5, 17] (fun bv iv wr2 => ∃ (j : Nat) (b : Bool), bv = .bool b ∧ iv = .int .i64 j ∧ j ≤ k ∧ Hid (pb = primeB p (outs.drop j) b) ∧ wr = wr2) (fun _ iv _ => k - (intOf iv).toNat)
      case atStart => exact ⟨0, true, rfl, rfl, Nat.zero_le _, hpb.out.symm, rfl⟩
      case round =>
        obtain ⟨j, b, rfl, rfl, hj, hpj, rfl⟩ := hrel
        by_cases hltj : j < k
        · obtain ⟨ba, oa, q, rfl, hba, hsq, hcq⟩ := reads_at hrd.out hltj
          have hq2 := hbd.out q (List.mem_of_getElem? hsq)
          obtain ⟨hq2, hq3⟩ := hq2
          have hdr : outs.drop j = q :: outs.drop (j + 1) := by
            rw [List.drop_eq_getElem_cons (by rw [hol.out]; exact hltj)]
            rw [List.getElem?_eq_getElem (by rw [hol.out]; exact hltj)] at hsq
            injection hsq with hsq
            rw [hsq]
          have hp2' : Hid (pb = primeB p (outs.drop (j + 1)) (b && decide (p % q ≠ 0))) := by rw [Hid, hpj.out, hdr, primeB]
          have y1 : ¬ (q = 0) := by omega
          obtain ⟨r, hr⟩ : ∃ r, p % q = r := ⟨_, rfl⟩
          have y2 : (p : Int).tmod q = (r : Int) := by rw [← hr]; rfl
          have y3 : (p : Int) % (q : Int) = (r : Int) := by rw [← hr]; rfl
          rw [hr] at hp2'
          have j0' : (0 : Int) ≤ j := by omega
          have j1' : (j : Int) < k := by omega
          replace hsq := hid_mk hsq
          replace hdr := hid_mk hdr
          replace hr := hid_mk hr
          cases b
          · have hp3 : Hid (pb = primeB p (outs.drop (j + 1)) false) := by have h := hp2'.out; rw [Bool.false_and] at h; exact h
            clear hp2' y2 y3
            go_wp2
            go_roundw
            case rel => exact ⟨j + 1, false, rfl, by go_num, by omega, hp3, trivial⟩
            case measure => simp [intOf]; omega
          · rcases Nat.eq_zero_or_pos r with rfl | hr0
            · have hp3 : Hid (pb = primeB p (outs.drop (j + 1)) false) := by have h := hp2'.out; (try simp at h); exact h
              have y4 : ((p : Int).tmod q != 0) = false := by rw [y2]; rfl
              clear hp2' y3
              go_wp2
              go_roundw
              case rel => exact ⟨j + 1, false, rfl, by go_num, by omega, hp3, trivial⟩
              case measure => simp [intOf]; omega
            · have hp3 : Hid (pb = primeB p (outs.drop (j + 1)) true) := by
                have h := hp2'.out
                rw [Bool.true_and, decide_eq_true (show r ≠ 0 by omega)] at h
                exact h
              have y4 : ((r : Int) != 0) = true := by simp; omega
              have y5 : ((r : Int) == 0) = false := by simp; omega
              have y6 : ¬ (r = 0) := by omega
              clear hp2' y3
              go_wp2
              go_roundw
              case rel => exact ⟨j + 1, true, rfl, by go_num, by omega, hp3, trivial⟩
              case measure => simp [intOf]; omega
        · obtain rfl : k = j := by omega
          have hpb2 : pb = b := by rw [hpj.out, List.drop_eq_nil_of_le (by rw [hol.out]; omega)]; rfl
          subst hpb2
          cases pb
          · have hnx2 : Hid (primesN f n (p + 1) outs = some L) := by have h := hnx.out; (try simp at h); exact h
            go_wp2
            go_roundw
            case rel => exact ⟨p + 1, f, k, co, Ao, outs, by go_num, by omega, by omega, by omega, rfl, hkc, hown, hnx2, hbd, hb⟩
            case measure => simp [intOf]; omega
          · have hnx2 : Hid (primesN f n (p + 1) (outs ++ [p]) = some L) := by have h := hnx.out; (try simp at h); exact h
            have hbd2 : Hid (∀ q ∈ outs ++ [p], 2 ≤ q ∧ q ≤ 402) := by
              intro q hq
              rcases List.mem_append.1 hq with h | h
              · exact hbd.out q h
              · simp at h; omega
            go_wp2_with (at_builtin; refine wpl_append_new rfl (.tmp 30) (.tmp 32) 49 rfl 3 j0 _ 8 Try.underlying49 hj0 hjz hj1 hj2 rfl hb.out (.slice Ao k co) k _ rfl hown ([p].map vnat) 1 1 rfl _ rfl (by simp [Act.eval]) (vnat_one _) (by omega) (by omega) ?_; intro A5 c5 w5 hown5 hc5 q5 st hs5; rw [← List.map_append] at hown5)
            go_roundw
            case rel => exact ⟨p + 1, f, k + 1, c5, A5, outs ++ [p], by go_num, by omega, by omega, by omega, rfl, hc5, hown5, hnx2, hbd2, hid_mk q5⟩
            case measure => simp [intOf]; omega
    · have hLo : outs = L := by
        have h := hpr.out
        rw [primesN, if_neg (by omega)] at h
        injection h
      subst hLo
      subst hol
      go_wp2
      refine ends_ret hQ (results_tmp rfl _ _ _) rfl ?_
      exact ⟨Ao, co, rfl, hkc, hown.reads, hb.out⟩
end Go.Proofs.Ytpfjfihfnplhfaa
