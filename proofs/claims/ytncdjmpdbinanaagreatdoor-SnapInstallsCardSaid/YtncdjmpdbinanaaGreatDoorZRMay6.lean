/-
  WHAT IS PROVED HERE: what the reference's May hands back of any message. Condition: the slices are of at most 2^47 elements.
-/
import Derived.Test.YtncdjmpdbinanaaGreatDoorZGRy1
import Derived.Test.YtncdjmpdbinanaaGreatDoorZRMay3
import Derived.Test.YtncdjmpdbinanaaGreatDoorZRMay4
import Derived.Test.YtncdjmpdbinanaaGreatDoorZRMay5
namespace Go.Proofs.YtncdjmpdbinanaaGreatDoor
open Go.RowKit

set_option maxRecDepth 100000 in
set_option maxHeartbeats 3200000 in
theorem NMay_x (kind fr to term : Int) (ok : Bool) (index lterm : Int) (rs : List Rec) (commit : Int) (s : ByteArray) (vs : List Int) (RA : Option Addr) (n Rc : Nat) (VA : Option Addr) (m Vc : Nat) (w : World) (h1 : (kind == 1) = false) (h2 : (kind == 2) = false) (h3 : (kind == 3) = false) (h4 : (kind == 4) = false) (h5 : (kind == 5) = false) :
    Calls Tryz.prog 113 #[.agg #[.int .i64 kind, .int .i64 fr, .int .i64 to, .int .i64 term, .bool ok, .int .i64 index, .int .i64 lterm, .slice RA n Rc, .int .i64 commit, .string s, .slice VA m Vc]] w fun e w' => e = .returned (.bool (mayM ⟨kind, fr, to, term, ok, index, lterm, rs, commit, s, vs⟩)) ∧ Below w.heap.size w w' := by
  have hk : inB kind 1 5 = false := by
    unfold inB
    simp only [beq_eq_false_iff_ne, ne_eq] at h1 h2 h3 h4 h5
    simp only [Bool.and_eq_false_imp, decide_eq_true_eq, decide_eq_false_iff_not]
    omega
  have hf : mayM ⟨kind, fr, to, term, ok, index, lterm, rs, commit, s, vs⟩ = false := by unfold mayM; simp [hk]
  rw [hf]
  replace hf := hid_mk hf
  replace hk := hid_mk hk
  refine calls_of_wpQ Tryz.func113 rfl ?_
  intro Q hQ
  simp only [Tryz.ntmps113, List.size_toArray, List.length_cons, List.length_nil, Nat.reduceAdd, Nat.reduceSub, Array.replicate_succ, Array.replicate_zero, List.push_toArray, List.append_toArray, List.nil_append, List.cons_append]
  go_wp2_with fail
  refine (r17in_any _ _ _ _).mono ?_
  rw [hk.out]
  rintro e w' ⟨rfl, rfl⟩
  go_wp2
  refine ends_ret hQ (results_tmp rfl _ _ _) rfl ?_
  exact ⟨rfl, by go_grown⟩
theorem NMay_any (M : Ms) (a : MsA) (w : World) {B : Nat} (hM : MsOk w B M a) : Calls Tryz.prog 113 #[msgV M a] w fun e w' => e = .returned (.bool (mayM M)) ∧ Below w.heap.size w w' := by
  obtain ⟨hr, hrc, hrb, hi, hvc, hvb, _⟩ := hM
  obtain ⟨kind, fr, to, term, ok, index, lterm, rs, commit, s, vs⟩ := M
  obtain ⟨⟨RA, n, Rc⟩, ⟨VA, m, Vc⟩⟩ := a
  dsimp only at hr hrc hrb hi hvc hvb
  unfold msgV
  dsimp only
  by_cases k1 : kind = 1
  · subst k1; exact NMay_1 fr to term ok index lterm rs commit s vs RA n Rc VA m Vc w (by omega) (by omega) hr hi
  by_cases k2 : kind = 2
  · subst k2; exact NMay_2 fr to term ok index lterm rs commit s vs RA n Rc VA m Vc w (by omega) (by omega) hr hi
  by_cases k3 : kind = 3
  · subst k3; exact NMay_3 fr to term ok index lterm rs commit s vs RA n Rc VA m Vc w (by omega) (by omega) hr hi
  by_cases k4 : kind = 4
  · subst k4; exact NMay_4 fr to term ok index lterm rs commit s vs RA n Rc VA m Vc w (by omega) (by omega) hr hi
  by_cases k5 : kind = 5
  · subst k5; exact NMay_5 fr to term ok index lterm rs commit s vs RA n Rc VA m Vc w (by omega) (by omega) hr hi
  exact NMay_x kind fr to term ok index lterm rs commit s vs RA n Rc VA m Vc w (by simpa using k1) (by simpa using k2) (by simpa using k3) (by simpa using k4) (by simpa using k5)
end Go.Proofs.YtncdjmpdbinanaaGreatDoor
