/-
  WHAT IS PROVED HERE: what journal.Newer hands back. Condition: the records' slice is of at most 2^47 elements.
-/
import Derived.Test.YtnaindoeihnmpaaDoorJrn1
namespace Go.Proofs.YtnaindoeihnmpaaDoor
open Go.RowKit

def newerJ (l : Lg) (at' term : Int) : Bool :=
  decide ((termJ l (lastJ l)).getD 0 < term) || (term == (termJ l (lastJ l)).getD 0) && decide (lastJ l ≤ at')
set_option maxHeartbeats 400000 in
theorem Newer_any (l : Lg) (at' term : Int) (A : Option Addr) (n cap : Nat) (w : World) {B : Nat} (hm : n ≤ 140737488355328) (h : Recs w B A n l.rs) :
    Calls Tryd.prog 29 #[logV l A n cap, .int .i64 at', .int .i64 term] w fun e w' => e = .returned (.bool (rightJ l && newerJ l at' term)) ∧ Below w.heap.size w w' := by
  cases hr : rightJ l
  · replace hr := hid_mk hr
    rw [logV_eq]
    go_enter Tryd.func29, Tryd.ntmps29
    go_wp2_with fail
    rw [← logV_eq]
    refine (Last_any l _ _ _ _ hm (h.to (by go_grown))).mono ?_
    rw [hr.out]
    rintro e w1 ⟨rfl, hb⟩
    obtain ⟨q1, z1, c1, f1⟩ := after (w := w) hb (by go_grown)
    simp only [World.size_alloc] at z1
    go_wp2_with fail
    rw [← logV_eq]
    refine (Right_any l _ _ _ _ hm (h.to (by go_grown))).mono ?_
    rw [hr.out]
    rintro e w2 ⟨rfl, hb2⟩
    obtain ⟨q2, z2, c2, f2⟩ := after (w := w) hb2 (by go_grown)
    go_wp2
    go_ret
    exact ⟨rfl, q2⟩
  · replace hr := hid_mk hr
    obtain ⟨t, ht⟩ : ∃ t, (termJ l (lastJ l)).getD 0 = t := ⟨_, rfl⟩
    obtain ⟨la, hla⟩ : ∃ la, lastJ l = la := ⟨_, rfl⟩
    have hN : Hid (newerJ l at' term = (decide (t < term) || (term == t) && decide (la ≤ at'))) := by unfold Hid newerJ; rw [ht, hla]
    replace ht := hid_mk ht
    replace hla := hid_mk hla
    have go : ∀ (b : Bool), (decide (t < term) || (term == t) && decide (la ≤ at')) = b → Calls Tryd.prog 29 #[logV l A n cap, .int .i64 at', .int .i64 term] w fun e w' => e = .returned (.bool b) ∧ Below w.heap.size w w' := by
      intro b hb'
      rw [logV_eq]
      by_cases g1 : t < term
      · obtain rfl : b = true := by simp [← hb', g1]
        clear hb'
        go_enter Tryd.func29, Tryd.ntmps29
        go_wp2_with fail
        rw [← logV_eq]
        refine (Last_any l _ _ _ _ hm (h.to (by go_grown))).mono ?_
        rw [hr.out, if_pos rfl, if_pos rfl, ht.out, hla.out]
        rintro e w1 ⟨rfl, hb⟩
        obtain ⟨q1, z1, c1, f1⟩ := after (w := w) hb (by go_grown)
        simp only [World.size_alloc] at z1
        go_wp2_with fail
        rw [← logV_eq]
        refine (Right_any l _ _ _ _ hm (h.to (by go_grown))).mono ?_
        rw [hr.out]
        rintro e w2 ⟨rfl, hb2⟩
        obtain ⟨q2, z2, c2, f2⟩ := after (w := w) hb2 (by go_grown)
        go_wp2
        go_ret
        exact ⟨rfl, q2⟩
      · by_cases g2 : term = t
        · subst g2
          obtain rfl : b = decide (la ≤ at') := by simp [← hb']
          clear hb'
          have g1' : decide (term < term) = false := by simp
          go_enter Tryd.func29, Tryd.ntmps29
          go_wp2_with fail
          rw [← logV_eq]
          refine (Last_any l _ _ _ _ hm (h.to (by go_grown))).mono ?_
          rw [hr.out, if_pos rfl, if_pos rfl, ht.out, hla.out]
          rintro e w1 ⟨rfl, hb⟩
          obtain ⟨q1, z1, c1, f1⟩ := after (w := w) hb (by go_grown)
          simp only [World.size_alloc] at z1
          go_wp2_with fail
          rw [← logV_eq]
          refine (Right_any l _ _ _ _ hm (h.to (by go_grown))).mono ?_
          rw [hr.out]
          rintro e w2 ⟨rfl, hb2⟩
          obtain ⟨q2, z2, c2, f2⟩ := after (w := w) hb2 (by go_grown)
          go_wp2
          go_ret
          exact ⟨ret_bool (by simp), q2⟩
        · have g2' : (term == t) = false := by simpa using g2
          obtain rfl : b = false := by simp [← hb', g1, g2]
          replace g2 := hid_mk g2
          clear hb'
          go_enter Tryd.func29, Tryd.ntmps29
          go_wp2_with fail
          rw [← logV_eq]
          refine (Last_any l _ _ _ _ hm (h.to (by go_grown))).mono ?_
          rw [hr.out, if_pos rfl, if_pos rfl, ht.out, hla.out]
          rintro e w1 ⟨rfl, hb⟩
          obtain ⟨q1, z1, c1, f1⟩ := after (w := w) hb (by go_grown)
          simp only [World.size_alloc] at z1
          go_wp2_with fail
          rw [← logV_eq]
          refine (Right_any l _ _ _ _ hm (h.to (by go_grown))).mono ?_
          rw [hr.out]
          rintro e w2 ⟨rfl, hb2⟩
          obtain ⟨q2, z2, c2, f2⟩ := after (w := w) hb2 (by go_grown)
          go_wp2
          go_ret
          exact ⟨ret_bool (by simpa using g1), q2⟩
    rw [hN.out]
    exact go _ rfl
end Go.Proofs.YtnaindoeihnmpaaDoor
