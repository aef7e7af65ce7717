/-
  WHAT IS PROVED HERE: what the reference's Sure hands back. Conditions: at most 2^43 peers, the last place is no more than 2^40.
-/
import Derived.Test.YtfaigomhnhgjfaaPeer
namespace Go.Proofs.Ytfaigomhnhgjfaa
open Go.RowKit

def cntF (p self last : Int) (ps : List Pr) : List Int → Nat
  | [] => 0
  | v :: vs => if hasB v p self last ps then cntF p self last ps vs + 1 else cntF p self last ps vs
theorem cntF_eq (p self last : Int) (ps : List Pr) : ∀ l, cntF p self last ps l = cnt p self last ps l
  | [] => rfl
  | v :: vs => by
    have ih := cntF_eq p self last ps vs
    unfold cnt at *
    unfold cntF
    rw [List.countP_cons, ih]
    split <;> rename_i h <;> simp [h]
theorem cntF_le (p self last : Int) (ps : List Pr) (l : List Int) : cntF p self last ps l ≤ l.length := by rw [cntF_eq]; exact List.countP_le_length
def refSureL (self last : Int) (ps : List Pr) (l : List Int) : Int := if rightL l then sureF self last ps l last.toNat else 0

set_option maxHeartbeats 1600000 in
theorem refSure_any (a : Option Addr) (len cap : Nat) (xs : List Int) (self last : Int) (A : Option Addr) (n pc : Nat) (ps : List Pr) (w : World) {B : Nat} (hl : len ≤ 140737488355328) (hm : n ≤ 8796093022208) (h0 : Ints w B a len xs) (k0 : Prs w B A n ps)
    (hlast : last ≤ 1099511627776) :
    Calls Try.prog 12 #[.slice a len cap, .int .i64 self, .int .i64 last, .slice A n pc] w fun e w' => e = .returned (.int .i64 (refSureL self last ps xs)) ∧ Below w.heap.size w w' := by
  have hI : Hid (Ints w w.heap.size a len xs) := ⟨h0.1, fun hn => by obtain ⟨b, o, e1, e2, _, e3⟩ := h0.2 hn; exact ⟨b, o, e1, e2, .inl e2, e3⟩⟩
  have hK := hid_mk k0.top
  have hlen := hid_mk h0.len
  clear h0 k0
  obtain ⟨R, hR⟩ : ∃ R, refSureL self last ps xs = R := ⟨_, rfl⟩
  rw [hR]
  cases hr : rightL xs
  · have hRo : Hid (R = 0) := by rw [Hid, ← hR]; unfold refSureL; rw [hr]; rfl
    replace hR := hid_mk hR
    replace hr := hid_mk hr
    refine calls_of_wpQ Try.func12 rfl ?_
    intro Q hQ
    simp only [Try.ntmps12, List.size_toArray, List.length_cons, List.length_nil, Nat.reduceAdd, Nat.reduceSub, Array.replicate_succ, Array.replicate_zero, List.push_toArray, List.append_toArray, List.nil_append, List.cons_append]
    go_wp2_with fail
    refine (refRight_any a len cap xs _ _ hl hI.out).mono ?_
    rw [hr.out]
    rintro e w1 ⟨rfl, rfl⟩
    go_wp2
    refine ends_ret hQ (results_tmp rfl _ _ _) rfl ?_
    exact ⟨by rw [hRo.out]; rfl, Below.refl _ _⟩
  have hRo : Hid (R = sureF self last ps xs last.toNat) := by rw [Hid, ← hR]; unfold refSureL; rw [hr]; rfl
  have hl7 : len ≤ 7 := by rw [← hlen.out]; unfold rightL at hr; simp at hr; omega
  replace hR := hid_mk hR
  replace hr := hid_mk hr
  refine calls_of_wpQ Try.func12 rfl ?_
  intro Q hQ
  simp only [Try.ntmps12, List.size_toArray, List.length_cons, List.length_nil, Nat.reduceAdd, Nat.reduceSub, Array.replicate_succ, Array.replicate_zero, List.push_toArray, List.append_toArray, List.nil_append, List.cons_append]
  go_wp2_with fail
  refine (refRight_any a len cap xs _ _ hl hI.out).mono ?_
  rw [hr.out]
  rintro e w1 ⟨rfl, rfl⟩
  go_wp2
  go_loopw [9] (fun pv wr => ∃ (p : Int), pv = .int .i64 p ∧ p ≤ last ∧ Hid (R = sureF self last ps xs p.toNat) ∧ Hid (Below w.heap.size w wr)) (fun pv _ => (intOf pv).toNat)
  case atStart => exact ⟨last, rfl, Int.le_refl _, hRo, hid_mk (Below.refl _ _)⟩
  case round =>
    clear hRo
    obtain ⟨p, rfl, hp, hRk, hb⟩ := hrel
    by_cases h0 : 0 < p
    · obtain ⟨C, hC⟩ : ∃ C, cntF p self last ps xs = C := ⟨_, rfl⟩
      have hCl : C ≤ len := by rw [← hC, ← hlen.out]; exact cntF_le _ _ _ _ _
      have hstep : Hid (R = if len - C < C then p else sureF self last ps xs (p - 1).toNat) := by
        obtain ⟨k, rfl⟩ := Int.eq_ofNat_of_zero_le (show 0 ≤ p by omega)
        obtain ⟨j, rfl⟩ : ∃ j, k = j + 1 := ⟨k - 1, by omega⟩
        rw [Hid, hRk.out]
        rw [Int.toNat_natCast, sureF, ← cntF_eq, hlen.out, hC]
        rw [show ((j + 1 : Nat) : Int) - 1 = (j : Nat) by omega, Int.toNat_natCast]
      replace hC := hid_mk hC
      clear hRk
      go_wp2
      go_loopw [10, 23] (fun nv iv wq => ∃ (c k : Nat), nv = .int .i64 c ∧ iv = .int .i64 k ∧ k ≤ len ∧ c ≤ k ∧ Hid (C = c + cntF p self last ps (xs.drop k)) ∧ Hid (Below w.heap.size w wq)) (fun _ iv _ => len - (intOf iv).toNat)
      case atStart => exact ⟨0, 0, rfl, rfl, Nat.zero_le _, Nat.le_refl _, (by rw [Hid, ← hC.out]; simp), hb⟩
      case round =>
        clear hb
        obtain ⟨c, k, rfl, rfl, hk, hck, hCk, hb⟩ := hrel
        by_cases hlt : k < len
        · have hI2 := hI.out.to hb.out
          have hK2 := hK.out.to hb.out
          obtain ⟨b, o, v, rfl, hbl, hd, hc⟩ := hI2.at_ hlt
          obtain ⟨q, hq⟩ : ∃ q, hasB v p self last ps = q := ⟨_, rfl⟩
          replace hq := hid_mk hq
          clear hI2
          go_wp2_with fail
          refine (has_any v p self last A n pc ps _ hm hK2).mono ?_
          rw [hq.out]
          rintro e w2 ⟨rfl, hb2⟩
          have q2 := hid_mk (after (w := w) hb2 hb.out).1
          clear hb2 hK2 hb
          cases q
          · have hCn : Hid (C = c + cntF p self last ps (xs.drop (k + 1))) := by rw [Hid, hCk.out, hd.out, cntF, if_neg (by rw [hq.out]; decide)]
            go_wp2
            go_roundw
            case rel => exact ⟨c, k + 1, rfl, by go_num, by omega, by omega, hCn, q2⟩
            case measure => simp [intOf]; omega
          · have hCn : Hid (C = c + 1 + cntF p self last ps (xs.drop (k + 1))) := by rw [Hid, hCk.out, hd.out, cntF, if_pos hq.out]; omega
            go_wp2
            go_roundw
            case rel => exact ⟨c + 1, k + 1, by go_num, by go_num, by omega, by omega, hCn, q2⟩
            case measure => simp [intOf]; omega
        · have hcC : C = c := by
            have h1 := hCk.out
            have hdr : xs.drop k = [] := List.drop_eq_nil_of_le (by rw [hlen.out]; omega)
            rw [hdr] at h1
            exact h1
          subst hcC
          by_cases hw : len - C < C
          · have hRf : Hid (R = p) := by rw [Hid, hstep.out, if_pos hw]
            have hw2 : (len : Int) - (C : Int) < (C : Int) := by omega
            go_wp2
            refine ends_ret hQ (results_tmp rfl _ _ _) rfl ?_
            exact ⟨by rw [hRf.out]; rfl, hb.out⟩
          · have hRf : Hid (R = sureF self last ps xs (p - 1).toNat) := by rw [Hid, hstep.out, if_neg hw]
            have hw2 : ¬ (len : Int) - (C : Int) < (C : Int) := by omega
            go_wp2
            go_roundw
            case rel => exact ⟨p - 1, by go_num, by omega, hRf, hb⟩
            case measure => simp [intOf]; omega
    · have hRf : Hid (R = 0) := by rw [Hid, hRk.out, show p.toNat = 0 by omega]; rfl
      go_wp2
      refine ends_ret hQ (results_tmp rfl _ _ _) rfl ?_
      exact ⟨by rw [hRf.out]; rfl, hb.out⟩
end Go.Proofs.Ytfaigomhnhgjfaa
