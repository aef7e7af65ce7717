/-
  WHAT IS PROVED HERE: what the reference's May hands back of a message. Condition: the slices are of at most 2^47 elements.
-/
import Derived.Test.YtncdjmpdbinanaaGreatDoorYGMy1
namespace Go.Proofs.YtncdjmpdbinanaaGreatDoor
open Go.RowKit

set_option maxRecDepth 100000 in
set_option maxHeartbeats 12800000 in
theorem NMay_3 (fr to term : Int) (ok : Bool) (index lterm : Int) (rs : List Rec) (commit : Int) (s : ByteArray) (vs : List Int) (RA : Option Addr) (n Rc : Nat) (VA : Option Addr) (m Vc : Nat) (w : World) {B : Nat} (hrb : n ≤ 140737488355328) (hvb : m ≤ 140737488355328) (hr : Recs w B RA n rs) (hi : Ints w B VA m vs) :
    Calls Tryz.prog 113 #[.agg #[.int .i64 3, .int .i64 fr, .int .i64 to, .int .i64 term, .bool ok, .int .i64 index, .int .i64 lterm, .slice RA n Rc, .int .i64 commit, .string s, .slice VA m Vc]] w fun e w' => e = .returned (.bool (mayM ⟨3, fr, to, term, ok, index, lterm, rs, commit, s, vs⟩)) ∧ Below w.heap.size w w' := by
  obtain ⟨MM, hMM⟩ : ∃ MM : Ms, (⟨3, fr, to, term, ok, index, lterm, rs, commit, s, vs⟩ : Ms) = MM := ⟨_, rfl⟩
  rw [hMM]
  have hlr := hid_mk hr.len
  have hlv := hid_mk hi.len
  replace hMM := hid_mk hMM
  have hX0 := hid_mk (Blk.new w 32 #[.int .i64 3, .int .i64 fr, .int .i64 to, .int .i64 term, .bool ok, .int .i64 index, .int .i64 lterm, .slice RA n Rc, .int .i64 commit, .string s, .slice VA m Vc])
  refine calls_of_wpQ Tryz.func113 rfl ?_
  intro Q hQ
  simp only [Tryz.ntmps113, List.size_toArray, List.length_cons, List.length_nil, Nat.reduceAdd, Nat.reduceSub, Array.replicate_succ, Array.replicate_zero, List.push_toArray, List.append_toArray, List.nil_append, List.cons_append]
  go_wp2_with fail
  refine (r17in_any _ _ _ _).mono ?_
  rw [show inB 3 1 5 = true from rfl]
  rintro e w' ⟨rfl, rfl⟩
  go_wp2_with fail
  refine (r17in_any _ _ _ _).mono ?_
  rintro e w' ⟨rfl, rfl⟩
  cases c0 : inB fr 1 9
  · replace c0 := hid_mk c0
    go_wp2
    refine ends_ret hQ (results_tmp rfl _ _ _) rfl ?_
    exact ⟨ret_bool (by rw [← hMM.out]; simp [mayM, c0.out]), by go_grown⟩
  replace c0 := hid_mk c0
  go_wp2_with fail
  refine (r17in_any _ _ _ _).mono ?_
  rintro e w' ⟨rfl, rfl⟩
  cases c1 : inB to 1 9
  · replace c1 := hid_mk c1
    go_wp2
    refine ends_ret hQ (results_tmp rfl _ _ _) rfl ?_
    exact ⟨ret_bool (by rw [← hMM.out]; simp [mayM, c1.out]), by go_grown⟩
  replace c1 := hid_mk c1
  by_cases cq : fr = to
  · have cq1 : (fr == to) = true := by simpa using cq
    have cq2 := hid_mk cq
    clear cq
    go_wp2
    refine ends_ret hQ (results_tmp rfl _ _ _) rfl ?_
    exact ⟨ret_bool (by rw [← hMM.out]; simp [mayM, cq2.out]), by go_grown⟩
  have cq1 : (fr == to) = false := by simpa using cq
  have cq2 := hid_mk cq1
  clear cq
  go_wp2_with fail
  refine (r17in_any _ _ _ _).mono ?_
  rintro e w' ⟨rfl, rfl⟩
  cases c3 : inB term 1 1073741824
  · replace c3 := hid_mk c3
    go_wp2
    refine ends_ret hQ (results_tmp rfl _ _ _) rfl ?_
    exact ⟨ret_bool (by rw [← hMM.out]; simp [mayM, c3.out]), by go_grown⟩
  replace c3 := hid_mk c3
  go_wp2_with fail
  refine (r17in_any _ _ _ _).mono ?_
  rintro e w' ⟨rfl, rfl⟩
  cases c4 : inB index 0 1073741824
  · replace c4 := hid_mk c4
    go_wp2
    refine ends_ret hQ (results_tmp rfl _ _ _) rfl ?_
    exact ⟨ret_bool (by rw [← hMM.out]; simp [mayM, c4.out]), by go_grown⟩
  replace c4 := hid_mk c4
  go_wp2_with fail
  refine (r17in_any _ _ _ _).mono ?_
  rintro e w' ⟨rfl, rfl⟩
  cases c5 : inB commit 0 1073741824
  · replace c5 := hid_mk c5
    go_wp2
    refine ends_ret hQ (results_tmp rfl _ _ _) rfl ?_
    exact ⟨ret_bool (by rw [← hMM.out]; simp [mayM, c5.out]), by go_grown⟩
  replace c5 := hid_mk c5
  go_wp2_with fail
  refine (r17in_any _ _ _ _).mono ?_
  rintro e w' ⟨rfl, rfl⟩
  cases c6 : inB lterm 0 term
  · replace c6 := hid_mk c6
    go_wp2
    refine ends_ret hQ (results_tmp rfl _ _ _) rfl ?_
    exact ⟨ret_bool (by rw [← hMM.out]; simp [mayM, c6.out]), by go_grown⟩
  replace c6 := hid_mk c6
  cases ok
  case true =>
    go_wp2
    refine ends_ret hQ (results_tmp rfl _ _ _) rfl ?_
    exact ⟨ret_bool (by rw [← hMM.out]; simp [mayM, formM, bodyM]), by go_grown⟩
  by_cases uindex : index = 0
  · subst uindex
    by_cases ulterm : lterm = 0
    · subst ulterm
      by_cases ucommit : commit = 0
      · subst ucommit
        by_cases un : n = 0
        · subst un
          obtain rfl : rs = [] := List.eq_nil_of_length_eq_zero hlr.out
          by_cases zs : s.size = 0
          case neg =>
            have e2 : 0 < s.size := by omega
            have e4 := hid_mk e2
            obtain ⟨s1, s2, s3, s4, s5⟩ := ne_toL e2
            clear zs e2
            go_wp2
            refine ends_ret hQ (results_tmp rfl _ _ _) rfl ?_
            exact ⟨ret_bool (by rw [← hMM.out]; simp [mayM, formM, bodyM, e4.out]), by go_grown⟩
          obtain rfl := ba_empty zs
          clear zs
          by_cases zm : m = 0
          case neg =>
            have e1 : 0 < m := by omega
            have e2 : 0 < vs.length := by have := hlv.out; omega
            have e3 := hid_mk e2
            clear e2 zm
            go_wp2
            refine ends_ret hQ (results_tmp rfl _ _ _) rfl ?_
            exact ⟨ret_bool (by rw [← hMM.out]; simp [mayM, formM, bodyM, e3.out]), by go_grown⟩
          subst zm
          obtain rfl : vs = [] := List.eq_nil_of_length_eq_zero hlv.out
          go_wp2
          have hq0 : Below w.heap.size w (w.alloc (.cells #[.int .i64 3, .int .i64 fr, .int .i64 to, .int .i64 term, .bool false, .int .i64 0, .int .i64 0, .slice RA 0 Rc, .int .i64 0, .string ⟨#[]⟩, .slice VA 0 Vc] 32)) := by go_grown
          have hall0 : Hid (([] : List Rec).all (fun r => decide (r.t ≤ term)) = (([] : List Rec).drop 0).all (fun r => decide (r.t ≤ term))) := rfl
          go_loopw [159] (fun i wr => ∃ k : Nat, k ≤ 0 ∧ i = .int .i64 k ∧ Below w.heap.size w wr ∧ Hid (([] : List Rec).all (fun r => decide (r.t ≤ term)) = (([] : List Rec).drop k).all (fun r => decide (r.t ≤ term))) ∧ Hid (Blk wr w.heap.size 32 #[.int .i64 3, .int .i64 fr, .int .i64 to, .int .i64 term, .bool false, .int .i64 0, .int .i64 0, .slice RA 0 Rc, .int .i64 0, .string ⟨#[]⟩, .slice VA 0 Vc])) (fun i _ => 0 - (intOf i).toNat)
          case atStart => exact ⟨0, Nat.zero_le _, rfl, hq0, hall0, hX0⟩
          case round =>
            clear hX0 hq0 hall0
            obtain ⟨k, hk, rfl, hb, hn, hX⟩ := hrel
            have xl := hX.out.lt
            have x3 := hX.out.cell 3
            change _ = some (Value.int .i64 term) at x3
            by_cases hlt : k < 0
            · exact absurd hlt (by omega)
            · have he := hid_mk (show ([] : List Rec).all (fun r => decide (r.t ≤ term)) = true by rw [hn.out, hr.end_ hlt]; rfl)
              have x7 := hX.out.cell 7
              have x5 := hX.out.cell 5
              have x6 := hX.out.cell 6
              change _ = some (Value.slice RA 0 Rc) at x7
              change _ = some (Value.int .i64 0) at x5
              change _ = some (Value.int .i64 0) at x6
              have hle : Hid (([] : List Rec).length ≤ 20) := (show ([] : List Rec).length ≤ 20 from by have := hlr.out; omega)
              go_wp2_with fail
              refine (refRight_any ⟨0, 0, []⟩ RA 0 Rc _ (B := B) (by omega) (hr.to (by go_grown))).mono ?_
              rintro e w2 ⟨rfl, hb1⟩
              have q2 := (after (w := w) hb1 (by go_grown)).1
              go_wp2
              refine ends_ret hQ (results_tmp rfl _ _ _) rfl ?_
              exact ⟨ret_bool (by rw [← hMM.out]; simp [mayM, formM, bodyM, c0.out, c1.out, c3.out, c4.out, c6.out, cq2.out, he.out, show inB 3 1 5 = true from rfl] <;> intros <;> rfl), q2⟩
        · have vn : 0 < n := by omega
          clear un
          by_cases zs : s.size = 0
          case neg =>
            have e2 : 0 < s.size := by omega
            have e4 := hid_mk e2
            obtain ⟨s1, s2, s3, s4, s5⟩ := ne_toL e2
            clear zs e2
            go_wp2
            refine ends_ret hQ (results_tmp rfl _ _ _) rfl ?_
            exact ⟨ret_bool (by rw [← hMM.out]; simp [mayM, formM, bodyM, e4.out]), by go_grown⟩
          obtain rfl := ba_empty zs
          clear zs
          by_cases zm : m = 0
          case neg =>
            have e1 : 0 < m := by omega
            have e2 : 0 < vs.length := by have := hlv.out; omega
            have e3 := hid_mk e2
            clear e2 zm
            go_wp2
            refine ends_ret hQ (results_tmp rfl _ _ _) rfl ?_
            exact ⟨ret_bool (by rw [← hMM.out]; simp [mayM, formM, bodyM, e3.out]), by go_grown⟩
          subst zm
          obtain rfl : vs = [] := List.eq_nil_of_length_eq_zero hlv.out
          go_wp2
          have hq0 : Below w.heap.size w (w.alloc (.cells #[.int .i64 3, .int .i64 fr, .int .i64 to, .int .i64 term, .bool false, .int .i64 0, .int .i64 0, .slice RA n Rc, .int .i64 0, .string ⟨#[]⟩, .slice VA 0 Vc] 32)) := by go_grown
          have hall0 : Hid (rs.all (fun r => decide (r.t ≤ term)) = (rs.drop 0).all (fun r => decide (r.t ≤ term))) := rfl
          go_loopw [159] (fun i wr => ∃ k : Nat, k ≤ n ∧ i = .int .i64 k ∧ Below w.heap.size w wr ∧ Hid (rs.all (fun r => decide (r.t ≤ term)) = (rs.drop k).all (fun r => decide (r.t ≤ term))) ∧ Hid (Blk wr w.heap.size 32 #[.int .i64 3, .int .i64 fr, .int .i64 to, .int .i64 term, .bool false, .int .i64 0, .int .i64 0, .slice RA n Rc, .int .i64 0, .string ⟨#[]⟩, .slice VA 0 Vc])) (fun i _ => n - (intOf i).toNat)
          case atStart => exact ⟨0, Nat.zero_le _, rfl, hq0, hall0, hX0⟩
          case round =>
            clear hX0 hq0 hall0
            obtain ⟨k, hk, rfl, hb, hn, hX⟩ := hrel
            have xl := hX.out.lt
            have x3 := hX.out.cell 3
            change _ = some (Value.int .i64 term) at x3
            by_cases hlt : k < n
            · obtain ⟨b, o, r, rfl, hbb, hd, ct, ck, cd⟩ := (hr.below hb).at_ hlt
              have hb2 : Below w.heap.size w (wr.alloc (.cells #[.int .i64 r.t, .int .i64 r.k, .string r.d] 51)) := hb.alloc hb.size _
              have hX2 := hid_mk (hX.out.alloc (.cells #[.int .i64 r.t, .int .i64 r.k, .string r.d] 51))
              obtain ⟨rt, rk, rd⟩ := r
              dsimp only at *
              by_cases hg : term < rt
              · have hng : Hid (¬ rt ≤ term) := (show ¬ rt ≤ term from by omega)
                go_wp2
                refine ends_ret hQ (results_tmp rfl _ _ _) rfl ?_
                exact ⟨ret_bool (by rw [← hMM.out]; simp only [mayM, bodyM]; rw [hn.out, hd.out, List.all_cons, show decide (rt ≤ term) = false from by simpa using hng.out]; simp), hb2⟩
              have hle : Hid (rt ≤ term) := (show rt ≤ term from by omega)
              go_wp2
              go_roundw
              case rel => exact ⟨k + 1, by omega, by go_num, hb2, by rw [Hid, hn.out, hd.out, List.all_cons, show decide (rt ≤ term) = true from by simpa using hle.out, Bool.true_and], hX2⟩
              case measure => simp [intOf]; omega
            · have he := hid_mk (show rs.all (fun r => decide (r.t ≤ term)) = true by rw [hn.out, hr.end_ hlt]; rfl)
              have x7 := hX.out.cell 7
              have x5 := hX.out.cell 5
              have x6 := hX.out.cell 6
              change _ = some (Value.slice RA n Rc) at x7
              change _ = some (Value.int .i64 0) at x5
              change _ = some (Value.int .i64 0) at x6
              by_cases hn20 : 20 < n
              · have hng : Hid (¬ rs.length ≤ 20) := (show ¬ rs.length ≤ 20 from by have := hlr.out; omega)
                go_wp2
                refine ends_ret hQ (results_tmp rfl _ _ _) rfl ?_
                exact ⟨ret_bool (by rw [← hMM.out]; simp only [mayM, bodyM, show decide (rs.length ≤ 20) = false from by simpa using hng.out]; simp), hb⟩
              have hle : Hid (rs.length ≤ 20) := (show rs.length ≤ 20 from by have := hlr.out; omega)
              go_wp2_with fail
              refine (refRight_any ⟨0, 0, rs⟩ RA n Rc _ (B := B) (by omega) (hr.to (by go_grown))).mono ?_
              rintro e w2 ⟨rfl, hb1⟩
              have q2 := (after (w := w) hb1 (by go_grown)).1
              go_wp2
              refine ends_ret hQ (results_tmp rfl _ _ _) rfl ?_
              exact ⟨ret_bool (by rw [← hMM.out]; simp [mayM, formM, bodyM, c0.out, c1.out, c3.out, c4.out, c6.out, cq2.out, he.out, hle.out, show inB 3 1 5 = true from rfl] <;> intros <;> rfl), q2⟩
      · have vcommit : (commit != (0 : Int)) = true := by simpa using ucommit
        have ycommit : (commit == (0 : Int)) = false := by simpa using ucommit
        have hcommit := hid_mk ucommit
        clear ucommit
        by_cases un : n = 0
        · subst un
          obtain rfl : rs = [] := List.eq_nil_of_length_eq_zero hlr.out
          by_cases zs : s.size = 0
          case neg =>
            have e2 : 0 < s.size := by omega
            have e4 := hid_mk e2
            obtain ⟨s1, s2, s3, s4, s5⟩ := ne_toL e2
            clear zs e2
            go_wp2
            refine ends_ret hQ (results_tmp rfl _ _ _) rfl ?_
            exact ⟨ret_bool (by rw [← hMM.out]; simp [mayM, formM, bodyM, e4.out]), by go_grown⟩
          obtain rfl := ba_empty zs
          clear zs
          by_cases zm : m = 0
          case neg =>
            have e1 : 0 < m := by omega
            have e2 : 0 < vs.length := by have := hlv.out; omega
            have e3 := hid_mk e2
            clear e2 zm
            go_wp2
            refine ends_ret hQ (results_tmp rfl _ _ _) rfl ?_
            exact ⟨ret_bool (by rw [← hMM.out]; simp [mayM, formM, bodyM, e3.out]), by go_grown⟩
          subst zm
          obtain rfl : vs = [] := List.eq_nil_of_length_eq_zero hlv.out
          go_wp2
          have hq0 : Below w.heap.size w (w.alloc (.cells #[.int .i64 3, .int .i64 fr, .int .i64 to, .int .i64 term, .bool false, .int .i64 0, .int .i64 0, .slice RA 0 Rc, .int .i64 commit, .string ⟨#[]⟩, .slice VA 0 Vc] 32)) := by go_grown
          have hall0 : Hid (([] : List Rec).all (fun r => decide (r.t ≤ term)) = (([] : List Rec).drop 0).all (fun r => decide (r.t ≤ term))) := rfl
          go_loopw [159] (fun i wr => ∃ k : Nat, k ≤ 0 ∧ i = .int .i64 k ∧ Below w.heap.size w wr ∧ Hid (([] : List Rec).all (fun r => decide (r.t ≤ term)) = (([] : List Rec).drop k).all (fun r => decide (r.t ≤ term))) ∧ Hid (Blk wr w.heap.size 32 #[.int .i64 3, .int .i64 fr, .int .i64 to, .int .i64 term, .bool false, .int .i64 0, .int .i64 0, .slice RA 0 Rc, .int .i64 commit, .string ⟨#[]⟩, .slice VA 0 Vc])) (fun i _ => 0 - (intOf i).toNat)
          case atStart => exact ⟨0, Nat.zero_le _, rfl, hq0, hall0, hX0⟩
          case round =>
            clear hX0 hq0 hall0
            obtain ⟨k, hk, rfl, hb, hn, hX⟩ := hrel
            have xl := hX.out.lt
            have x3 := hX.out.cell 3
            change _ = some (Value.int .i64 term) at x3
            by_cases hlt : k < 0
            · exact absurd hlt (by omega)
            · have he := hid_mk (show ([] : List Rec).all (fun r => decide (r.t ≤ term)) = true by rw [hn.out, hr.end_ hlt]; rfl)
              have x7 := hX.out.cell 7
              have x5 := hX.out.cell 5
              have x6 := hX.out.cell 6
              change _ = some (Value.slice RA 0 Rc) at x7
              change _ = some (Value.int .i64 0) at x5
              change _ = some (Value.int .i64 0) at x6
              have hle : Hid (([] : List Rec).length ≤ 20) := (show ([] : List Rec).length ≤ 20 from by have := hlr.out; omega)
              go_wp2_with fail
              refine (refRight_any ⟨0, 0, []⟩ RA 0 Rc _ (B := B) (by omega) (hr.to (by go_grown))).mono ?_
              rintro e w2 ⟨rfl, hb1⟩
              have q2 := (after (w := w) hb1 (by go_grown)).1
              go_wp2
              refine ends_ret hQ (results_tmp rfl _ _ _) rfl ?_
              exact ⟨ret_bool (by rw [← hMM.out]; simp [mayM, formM, bodyM, c0.out, c1.out, c3.out, c4.out, c5.out, c6.out, cq2.out, he.out, show inB 3 1 5 = true from rfl] <;> intros <;> rfl), q2⟩
        · have vn : 0 < n := by omega
          clear un
          by_cases zs : s.size = 0
          case neg =>
            have e2 : 0 < s.size := by omega
            have e4 := hid_mk e2
            obtain ⟨s1, s2, s3, s4, s5⟩ := ne_toL e2
            clear zs e2
            go_wp2
            refine ends_ret hQ (results_tmp rfl _ _ _) rfl ?_
            exact ⟨ret_bool (by rw [← hMM.out]; simp [mayM, formM, bodyM, e4.out]), by go_grown⟩
          obtain rfl := ba_empty zs
          clear zs
          by_cases zm : m = 0
          case neg =>
            have e1 : 0 < m := by omega
            have e2 : 0 < vs.length := by have := hlv.out; omega
            have e3 := hid_mk e2
            clear e2 zm
            go_wp2
            refine ends_ret hQ (results_tmp rfl _ _ _) rfl ?_
            exact ⟨ret_bool (by rw [← hMM.out]; simp [mayM, formM, bodyM, e3.out]), by go_grown⟩
          subst zm
          obtain rfl : vs = [] := List.eq_nil_of_length_eq_zero hlv.out
          go_wp2
          have hq0 : Below w.heap.size w (w.alloc (.cells #[.int .i64 3, .int .i64 fr, .int .i64 to, .int .i64 term, .bool false, .int .i64 0, .int .i64 0, .slice RA n Rc, .int .i64 commit, .string ⟨#[]⟩, .slice VA 0 Vc] 32)) := by go_grown
          have hall0 : Hid (rs.all (fun r => decide (r.t ≤ term)) = (rs.drop 0).all (fun r => decide (r.t ≤ term))) := rfl
          go_loopw [159] (fun i wr => ∃ k : Nat, k ≤ n ∧ i = .int .i64 k ∧ Below w.heap.size w wr ∧ Hid (rs.all (fun r => decide (r.t ≤ term)) = (rs.drop k).all (fun r => decide (r.t ≤ term))) ∧ Hid (Blk wr w.heap.size 32 #[.int .i64 3, .int .i64 fr, .int .i64 to, .int .i64 term, .bool false, .int .i64 0, .int .i64 0, .slice RA n Rc, .int .i64 commit, .string ⟨#[]⟩, .slice VA 0 Vc])) (fun i _ => n - (intOf i).toNat)
          case atStart => exact ⟨0, Nat.zero_le _, rfl, hq0, hall0, hX0⟩
          case round =>
            clear hX0 hq0 hall0
            obtain ⟨k, hk, rfl, hb, hn, hX⟩ := hrel
            have xl := hX.out.lt
            have x3 := hX.out.cell 3
            change _ = some (Value.int .i64 term) at x3
            by_cases hlt : k < n
            · obtain ⟨b, o, r, rfl, hbb, hd, ct, ck, cd⟩ := (hr.below hb).at_ hlt
              have hb2 : Below w.heap.size w (wr.alloc (.cells #[.int .i64 r.t, .int .i64 r.k, .string r.d] 51)) := hb.alloc hb.size _
              have hX2 := hid_mk (hX.out.alloc (.cells #[.int .i64 r.t, .int .i64 r.k, .string r.d] 51))
              obtain ⟨rt, rk, rd⟩ := r
              dsimp only at *
              by_cases hg : term < rt
              · have hng : Hid (¬ rt ≤ term) := (show ¬ rt ≤ term from by omega)
                go_wp2
                refine ends_ret hQ (results_tmp rfl _ _ _) rfl ?_
                exact ⟨ret_bool (by rw [← hMM.out]; simp only [mayM, bodyM]; rw [hn.out, hd.out, List.all_cons, show decide (rt ≤ term) = false from by simpa using hng.out]; simp), hb2⟩
              have hle : Hid (rt ≤ term) := (show rt ≤ term from by omega)
              go_wp2
              go_roundw
              case rel => exact ⟨k + 1, by omega, by go_num, hb2, by rw [Hid, hn.out, hd.out, List.all_cons, show decide (rt ≤ term) = true from by simpa using hle.out, Bool.true_and], hX2⟩
              case measure => simp [intOf]; omega
            · have he := hid_mk (show rs.all (fun r => decide (r.t ≤ term)) = true by rw [hn.out, hr.end_ hlt]; rfl)
              have x7 := hX.out.cell 7
              have x5 := hX.out.cell 5
              have x6 := hX.out.cell 6
              change _ = some (Value.slice RA n Rc) at x7
              change _ = some (Value.int .i64 0) at x5
              change _ = some (Value.int .i64 0) at x6
              by_cases hn20 : 20 < n
              · have hng : Hid (¬ rs.length ≤ 20) := (show ¬ rs.length ≤ 20 from by have := hlr.out; omega)
                go_wp2
                refine ends_ret hQ (results_tmp rfl _ _ _) rfl ?_
                exact ⟨ret_bool (by rw [← hMM.out]; simp only [mayM, bodyM, show decide (rs.length ≤ 20) = false from by simpa using hng.out]; simp), hb⟩
              have hle : Hid (rs.length ≤ 20) := (show rs.length ≤ 20 from by have := hlr.out; omega)
              go_wp2_with fail
              refine (refRight_any ⟨0, 0, rs⟩ RA n Rc _ (B := B) (by omega) (hr.to (by go_grown))).mono ?_
              rintro e w2 ⟨rfl, hb1⟩
              have q2 := (after (w := w) hb1 (by go_grown)).1
              go_wp2
              refine ends_ret hQ (results_tmp rfl _ _ _) rfl ?_
              exact ⟨ret_bool (by rw [← hMM.out]; simp [mayM, formM, bodyM, c0.out, c1.out, c3.out, c4.out, c5.out, c6.out, cq2.out, he.out, hle.out, show inB 3 1 5 = true from rfl] <;> intros <;> rfl), q2⟩
    · have vlterm : (lterm != (0 : Int)) = true := by simpa using ulterm
      have ylterm : (lterm == (0 : Int)) = false := by simpa using ulterm
      have hlterm := hid_mk ulterm
      clear ulterm
      by_cases ucommit : commit = 0
      · subst ucommit
        by_cases un : n = 0
        · subst un
          obtain rfl : rs = [] := List.eq_nil_of_length_eq_zero hlr.out
          by_cases zs : s.size = 0
          case neg =>
            have e2 : 0 < s.size := by omega
            have e4 := hid_mk e2
            obtain ⟨s1, s2, s3, s4, s5⟩ := ne_toL e2
            clear zs e2
            go_wp2
            refine ends_ret hQ (results_tmp rfl _ _ _) rfl ?_
            exact ⟨ret_bool (by rw [← hMM.out]; simp [mayM, formM, bodyM, e4.out]), by go_grown⟩
          obtain rfl := ba_empty zs
          clear zs
          by_cases zm : m = 0
          case neg =>
            have e1 : 0 < m := by omega
            have e2 : 0 < vs.length := by have := hlv.out; omega
            have e3 := hid_mk e2
            clear e2 zm
            go_wp2
            refine ends_ret hQ (results_tmp rfl _ _ _) rfl ?_
            exact ⟨ret_bool (by rw [← hMM.out]; simp [mayM, formM, bodyM, e3.out]), by go_grown⟩
          subst zm
          obtain rfl : vs = [] := List.eq_nil_of_length_eq_zero hlv.out
          go_wp2
          have hq0 : Below w.heap.size w (w.alloc (.cells #[.int .i64 3, .int .i64 fr, .int .i64 to, .int .i64 term, .bool false, .int .i64 0, .int .i64 lterm, .slice RA 0 Rc, .int .i64 0, .string ⟨#[]⟩, .slice VA 0 Vc] 32)) := by go_grown
          have hall0 : Hid (([] : List Rec).all (fun r => decide (r.t ≤ term)) = (([] : List Rec).drop 0).all (fun r => decide (r.t ≤ term))) := rfl
          go_loopw [159] (fun i wr => ∃ k : Nat, k ≤ 0 ∧ i = .int .i64 k ∧ Below w.heap.size w wr ∧ Hid (([] : List Rec).all (fun r => decide (r.t ≤ term)) = (([] : List Rec).drop k).all (fun r => decide (r.t ≤ term))) ∧ Hid (Blk wr w.heap.size 32 #[.int .i64 3, .int .i64 fr, .int .i64 to, .int .i64 term, .bool false, .int .i64 0, .int .i64 lterm, .slice RA 0 Rc, .int .i64 0, .string ⟨#[]⟩, .slice VA 0 Vc])) (fun i _ => 0 - (intOf i).toNat)
          case atStart => exact ⟨0, Nat.zero_le _, rfl, hq0, hall0, hX0⟩
          case round =>
            clear hX0 hq0 hall0
            obtain ⟨k, hk, rfl, hb, hn, hX⟩ := hrel
            have xl := hX.out.lt
            have x3 := hX.out.cell 3
            change _ = some (Value.int .i64 term) at x3
            by_cases hlt : k < 0
            · exact absurd hlt (by omega)
            · have he := hid_mk (show ([] : List Rec).all (fun r => decide (r.t ≤ term)) = true by rw [hn.out, hr.end_ hlt]; rfl)
              have x7 := hX.out.cell 7
              have x5 := hX.out.cell 5
              have x6 := hX.out.cell 6
              change _ = some (Value.slice RA 0 Rc) at x7
              change _ = some (Value.int .i64 0) at x5
              change _ = some (Value.int .i64 lterm) at x6
              have hle : Hid (([] : List Rec).length ≤ 20) := (show ([] : List Rec).length ≤ 20 from by have := hlr.out; omega)
              go_wp2_with fail
              refine (refRight_any ⟨0, lterm, []⟩ RA 0 Rc _ (B := B) (by omega) (hr.to (by go_grown))).mono ?_
              rintro e w2 ⟨rfl, hb1⟩
              have q2 := (after (w := w) hb1 (by go_grown)).1
              go_wp2
              refine ends_ret hQ (results_tmp rfl _ _ _) rfl ?_
              exact ⟨ret_bool (by rw [← hMM.out]; simp [mayM, formM, bodyM, c0.out, c1.out, c3.out, c4.out, c6.out, cq2.out, he.out, show inB 3 1 5 = true from rfl] <;> intros <;> rfl), q2⟩
        · have vn : 0 < n := by omega
          clear un
          by_cases zs : s.size = 0
          case neg =>
            have e2 : 0 < s.size := by omega
            have e4 := hid_mk e2
            obtain ⟨s1, s2, s3, s4, s5⟩ := ne_toL e2
            clear zs e2
            go_wp2
            refine ends_ret hQ (results_tmp rfl _ _ _) rfl ?_
            exact ⟨ret_bool (by rw [← hMM.out]; simp [mayM, formM, bodyM, e4.out]), by go_grown⟩
          obtain rfl := ba_empty zs
          clear zs
          by_cases zm : m = 0
          case neg =>
            have e1 : 0 < m := by omega
            have e2 : 0 < vs.length := by have := hlv.out; omega
            have e3 := hid_mk e2
            clear e2 zm
            go_wp2
            refine ends_ret hQ (results_tmp rfl _ _ _) rfl ?_
            exact ⟨ret_bool (by rw [← hMM.out]; simp [mayM, formM, bodyM, e3.out]), by go_grown⟩
          subst zm
          obtain rfl : vs = [] := List.eq_nil_of_length_eq_zero hlv.out
          go_wp2
          have hq0 : Below w.heap.size w (w.alloc (.cells #[.int .i64 3, .int .i64 fr, .int .i64 to, .int .i64 term, .bool false, .int .i64 0, .int .i64 lterm, .slice RA n Rc, .int .i64 0, .string ⟨#[]⟩, .slice VA 0 Vc] 32)) := by go_grown
          have hall0 : Hid (rs.all (fun r => decide (r.t ≤ term)) = (rs.drop 0).all (fun r => decide (r.t ≤ term))) := rfl
          go_loopw [159] (fun i wr => ∃ k : Nat, k ≤ n ∧ i = .int .i64 k ∧ Below w.heap.size w wr ∧ Hid (rs.all (fun r => decide (r.t ≤ term)) = (rs.drop k).all (fun r => decide (r.t ≤ term))) ∧ Hid (Blk wr w.heap.size 32 #[.int .i64 3, .int .i64 fr, .int .i64 to, .int .i64 term, .bool false, .int .i64 0, .int .i64 lterm, .slice RA n Rc, .int .i64 0, .string ⟨#[]⟩, .slice VA 0 Vc])) (fun i _ => n - (intOf i).toNat)
          case atStart => exact ⟨0, Nat.zero_le _, rfl, hq0, hall0, hX0⟩
          case round =>
            clear hX0 hq0 hall0
            obtain ⟨k, hk, rfl, hb, hn, hX⟩ := hrel
            have xl := hX.out.lt
            have x3 := hX.out.cell 3
            change _ = some (Value.int .i64 term) at x3
            by_cases hlt : k < n
            · obtain ⟨b, o, r, rfl, hbb, hd, ct, ck, cd⟩ := (hr.below hb).at_ hlt
              have hb2 : Below w.heap.size w (wr.alloc (.cells #[.int .i64 r.t, .int .i64 r.k, .string r.d] 51)) := hb.alloc hb.size _
              have hX2 := hid_mk (hX.out.alloc (.cells #[.int .i64 r.t, .int .i64 r.k, .string r.d] 51))
              obtain ⟨rt, rk, rd⟩ := r
              dsimp only at *
              by_cases hg : term < rt
              · have hng : Hid (¬ rt ≤ term) := (show ¬ rt ≤ term from by omega)
                go_wp2
                refine ends_ret hQ (results_tmp rfl _ _ _) rfl ?_
                exact ⟨ret_bool (by rw [← hMM.out]; simp only [mayM, bodyM]; rw [hn.out, hd.out, List.all_cons, show decide (rt ≤ term) = false from by simpa using hng.out]; simp), hb2⟩
              have hle : Hid (rt ≤ term) := (show rt ≤ term from by omega)
              go_wp2
              go_roundw
              case rel => exact ⟨k + 1, by omega, by go_num, hb2, by rw [Hid, hn.out, hd.out, List.all_cons, show decide (rt ≤ term) = true from by simpa using hle.out, Bool.true_and], hX2⟩
              case measure => simp [intOf]; omega
            · have he := hid_mk (show rs.all (fun r => decide (r.t ≤ term)) = true by rw [hn.out, hr.end_ hlt]; rfl)
              have x7 := hX.out.cell 7
              have x5 := hX.out.cell 5
              have x6 := hX.out.cell 6
              change _ = some (Value.slice RA n Rc) at x7
              change _ = some (Value.int .i64 0) at x5
              change _ = some (Value.int .i64 lterm) at x6
              by_cases hn20 : 20 < n
              · have hng : Hid (¬ rs.length ≤ 20) := (show ¬ rs.length ≤ 20 from by have := hlr.out; omega)
                go_wp2
                refine ends_ret hQ (results_tmp rfl _ _ _) rfl ?_
                exact ⟨ret_bool (by rw [← hMM.out]; simp only [mayM, bodyM, show decide (rs.length ≤ 20) = false from by simpa using hng.out]; simp), hb⟩
              have hle : Hid (rs.length ≤ 20) := (show rs.length ≤ 20 from by have := hlr.out; omega)
              go_wp2_with fail
              refine (refRight_any ⟨0, lterm, rs⟩ RA n Rc _ (B := B) (by omega) (hr.to (by go_grown))).mono ?_
              rintro e w2 ⟨rfl, hb1⟩
              have q2 := (after (w := w) hb1 (by go_grown)).1
              go_wp2
              refine ends_ret hQ (results_tmp rfl _ _ _) rfl ?_
              exact ⟨ret_bool (by rw [← hMM.out]; simp [mayM, formM, bodyM, c0.out, c1.out, c3.out, c4.out, c6.out, cq2.out, he.out, hle.out, show inB 3 1 5 = true from rfl] <;> intros <;> rfl), q2⟩
      · have vcommit : (commit != (0 : Int)) = true := by simpa using ucommit
        have ycommit : (commit == (0 : Int)) = false := by simpa using ucommit
        have hcommit := hid_mk ucommit
        clear ucommit
        by_cases un : n = 0
        · subst un
          obtain rfl : rs = [] := List.eq_nil_of_length_eq_zero hlr.out
          by_cases zs : s.size = 0
          case neg =>
            have e2 : 0 < s.size := by omega
            have e4 := hid_mk e2
            obtain ⟨s1, s2, s3, s4, s5⟩ := ne_toL e2
            clear zs e2
            go_wp2
            refine ends_ret hQ (results_tmp rfl _ _ _) rfl ?_
            exact ⟨ret_bool (by rw [← hMM.out]; simp [mayM, formM, bodyM, e4.out]), by go_grown⟩
          obtain rfl := ba_empty zs
          clear zs
          by_cases zm : m = 0
          case neg =>
            have e1 : 0 < m := by omega
            have e2 : 0 < vs.length := by have := hlv.out; omega
            have e3 := hid_mk e2
            clear e2 zm
            go_wp2
            refine ends_ret hQ (results_tmp rfl _ _ _) rfl ?_
            exact ⟨ret_bool (by rw [← hMM.out]; simp [mayM, formM, bodyM, e3.out]), by go_grown⟩
          subst zm
          obtain rfl : vs = [] := List.eq_nil_of_length_eq_zero hlv.out
          go_wp2
          have hq0 : Below w.heap.size w (w.alloc (.cells #[.int .i64 3, .int .i64 fr, .int .i64 to, .int .i64 term, .bool false, .int .i64 0, .int .i64 lterm, .slice RA 0 Rc, .int .i64 commit, .string ⟨#[]⟩, .slice VA 0 Vc] 32)) := by go_grown
          have hall0 : Hid (([] : List Rec).all (fun r => decide (r.t ≤ term)) = (([] : List Rec).drop 0).all (fun r => decide (r.t ≤ term))) := rfl
          go_loopw [159] (fun i wr => ∃ k : Nat, k ≤ 0 ∧ i = .int .i64 k ∧ Below w.heap.size w wr ∧ Hid (([] : List Rec).all (fun r => decide (r.t ≤ term)) = (([] : List Rec).drop k).all (fun r => decide (r.t ≤ term))) ∧ Hid (Blk wr w.heap.size 32 #[.int .i64 3, .int .i64 fr, .int .i64 to, .int .i64 term, .bool false, .int .i64 0, .int .i64 lterm, .slice RA 0 Rc, .int .i64 commit, .string ⟨#[]⟩, .slice VA 0 Vc])) (fun i _ => 0 - (intOf i).toNat)
          case atStart => exact ⟨0, Nat.zero_le _, rfl, hq0, hall0, hX0⟩
          case round =>
            clear hX0 hq0 hall0
            obtain ⟨k, hk, rfl, hb, hn, hX⟩ := hrel
            have xl := hX.out.lt
            have x3 := hX.out.cell 3
            change _ = some (Value.int .i64 term) at x3
            by_cases hlt : k < 0
            · exact absurd hlt (by omega)
            · have he := hid_mk (show ([] : List Rec).all (fun r => decide (r.t ≤ term)) = true by rw [hn.out, hr.end_ hlt]; rfl)
              have x7 := hX.out.cell 7
              have x5 := hX.out.cell 5
              have x6 := hX.out.cell 6
              change _ = some (Value.slice RA 0 Rc) at x7
              change _ = some (Value.int .i64 0) at x5
              change _ = some (Value.int .i64 lterm) at x6
              have hle : Hid (([] : List Rec).length ≤ 20) := (show ([] : List Rec).length ≤ 20 from by have := hlr.out; omega)
              go_wp2_with fail
              refine (refRight_any ⟨0, lterm, []⟩ RA 0 Rc _ (B := B) (by omega) (hr.to (by go_grown))).mono ?_
              rintro e w2 ⟨rfl, hb1⟩
              have q2 := (after (w := w) hb1 (by go_grown)).1
              go_wp2
              refine ends_ret hQ (results_tmp rfl _ _ _) rfl ?_
              exact ⟨ret_bool (by rw [← hMM.out]; simp [mayM, formM, bodyM, c0.out, c1.out, c3.out, c4.out, c5.out, c6.out, cq2.out, he.out, show inB 3 1 5 = true from rfl] <;> intros <;> rfl), q2⟩
        · have vn : 0 < n := by omega
          clear un
          by_cases zs : s.size = 0
          case neg =>
            have e2 : 0 < s.size := by omega
            have e4 := hid_mk e2
            obtain ⟨s1, s2, s3, s4, s5⟩ := ne_toL e2
            clear zs e2
            go_wp2
            refine ends_ret hQ (results_tmp rfl _ _ _) rfl ?_
            exact ⟨ret_bool (by rw [← hMM.out]; simp [mayM, formM, bodyM, e4.out]), by go_grown⟩
          obtain rfl := ba_empty zs
          clear zs
          by_cases zm : m = 0
          case neg =>
            have e1 : 0 < m := by omega
            have e2 : 0 < vs.length := by have := hlv.out; omega
            have e3 := hid_mk e2
            clear e2 zm
            go_wp2
            refine ends_ret hQ (results_tmp rfl _ _ _) rfl ?_
            exact ⟨ret_bool (by rw [← hMM.out]; simp [mayM, formM, bodyM, e3.out]), by go_grown⟩
          subst zm
          obtain rfl : vs = [] := List.eq_nil_of_length_eq_zero hlv.out
          go_wp2
          have hq0 : Below w.heap.size w (w.alloc (.cells #[.int .i64 3, .int .i64 fr, .int .i64 to, .int .i64 term, .bool false, .int .i64 0, .int .i64 lterm, .slice RA n Rc, .int .i64 commit, .string ⟨#[]⟩, .slice VA 0 Vc] 32)) := by go_grown
          have hall0 : Hid (rs.all (fun r => decide (r.t ≤ term)) = (rs.drop 0).all (fun r => decide (r.t ≤ term))) := rfl
          go_loopw [159] (fun i wr => ∃ k : Nat, k ≤ n ∧ i = .int .i64 k ∧ Below w.heap.size w wr ∧ Hid (rs.all (fun r => decide (r.t ≤ term)) = (rs.drop k).all (fun r => decide (r.t ≤ term))) ∧ Hid (Blk wr w.heap.size 32 #[.int .i64 3, .int .i64 fr, .int .i64 to, .int .i64 term, .bool false, .int .i64 0, .int .i64 lterm, .slice RA n Rc, .int .i64 commit, .string ⟨#[]⟩, .slice VA 0 Vc])) (fun i _ => n - (intOf i).toNat)
          case atStart => exact ⟨0, Nat.zero_le _, rfl, hq0, hall0, hX0⟩
          case round =>
            clear hX0 hq0 hall0
            obtain ⟨k, hk, rfl, hb, hn, hX⟩ := hrel
            have xl := hX.out.lt
            have x3 := hX.out.cell 3
            change _ = some (Value.int .i64 term) at x3
            by_cases hlt : k < n
            · obtain ⟨b, o, r, rfl, hbb, hd, ct, ck, cd⟩ := (hr.below hb).at_ hlt
              have hb2 : Below w.heap.size w (wr.alloc (.cells #[.int .i64 r.t, .int .i64 r.k, .string r.d] 51)) := hb.alloc hb.size _
              have hX2 := hid_mk (hX.out.alloc (.cells #[.int .i64 r.t, .int .i64 r.k, .string r.d] 51))
              obtain ⟨rt, rk, rd⟩ := r
              dsimp only at *
              by_cases hg : term < rt
              · have hng : Hid (¬ rt ≤ term) := (show ¬ rt ≤ term from by omega)
                go_wp2
                refine ends_ret hQ (results_tmp rfl _ _ _) rfl ?_
                exact ⟨ret_bool (by rw [← hMM.out]; simp only [mayM, bodyM]; rw [hn.out, hd.out, List.all_cons, show decide (rt ≤ term) = false from by simpa using hng.out]; simp), hb2⟩
              have hle : Hid (rt ≤ term) := (show rt ≤ term from by omega)
              go_wp2
              go_roundw
              case rel => exact ⟨k + 1, by omega, by go_num, hb2, by rw [Hid, hn.out, hd.out, List.all_cons, show decide (rt ≤ term) = true from by simpa using hle.out, Bool.true_and], hX2⟩
              case measure => simp [intOf]; omega
            · have he := hid_mk (show rs.all (fun r => decide (r.t ≤ term)) = true by rw [hn.out, hr.end_ hlt]; rfl)
              have x7 := hX.out.cell 7
              have x5 := hX.out.cell 5
              have x6 := hX.out.cell 6
              change _ = some (Value.slice RA n Rc) at x7
              change _ = some (Value.int .i64 0) at x5
              change _ = some (Value.int .i64 lterm) at x6
              by_cases hn20 : 20 < n
              · have hng : Hid (¬ rs.length ≤ 20) := (show ¬ rs.length ≤ 20 from by have := hlr.out; omega)
                go_wp2
                refine ends_ret hQ (results_tmp rfl _ _ _) rfl ?_
                exact ⟨ret_bool (by rw [← hMM.out]; simp only [mayM, bodyM, show decide (rs.length ≤ 20) = false from by simpa using hng.out]; simp), hb⟩
              have hle : Hid (rs.length ≤ 20) := (show rs.length ≤ 20 from by have := hlr.out; omega)
              go_wp2_with fail
              refine (refRight_any ⟨0, lterm, rs⟩ RA n Rc _ (B := B) (by omega) (hr.to (by go_grown))).mono ?_
              rintro e w2 ⟨rfl, hb1⟩
              have q2 := (after (w := w) hb1 (by go_grown)).1
              go_wp2
              refine ends_ret hQ (results_tmp rfl _ _ _) rfl ?_
              exact ⟨ret_bool (by rw [← hMM.out]; simp [mayM, formM, bodyM, c0.out, c1.out, c3.out, c4.out, c5.out, c6.out, cq2.out, he.out, hle.out, show inB 3 1 5 = true from rfl] <;> intros <;> rfl), q2⟩
  · have vindex : (index != (0 : Int)) = true := by simpa using uindex
    have yindex : (index == (0 : Int)) = false := by simpa using uindex
    have hindex := hid_mk uindex
    clear uindex
    by_cases ulterm : lterm = 0
    · subst ulterm
      by_cases ucommit : commit = 0
      · subst ucommit
        by_cases un : n = 0
        · subst un
          obtain rfl : rs = [] := List.eq_nil_of_length_eq_zero hlr.out
          by_cases zs : s.size = 0
          case neg =>
            have e2 : 0 < s.size := by omega
            have e4 := hid_mk e2
            obtain ⟨s1, s2, s3, s4, s5⟩ := ne_toL e2
            clear zs e2
            go_wp2
            refine ends_ret hQ (results_tmp rfl _ _ _) rfl ?_
            exact ⟨ret_bool (by rw [← hMM.out]; simp [mayM, formM, bodyM, e4.out]), by go_grown⟩
          obtain rfl := ba_empty zs
          clear zs
          by_cases zm : m = 0
          case neg =>
            have e1 : 0 < m := by omega
            have e2 : 0 < vs.length := by have := hlv.out; omega
            have e3 := hid_mk e2
            clear e2 zm
            go_wp2
            refine ends_ret hQ (results_tmp rfl _ _ _) rfl ?_
            exact ⟨ret_bool (by rw [← hMM.out]; simp [mayM, formM, bodyM, e3.out]), by go_grown⟩
          subst zm
          obtain rfl : vs = [] := List.eq_nil_of_length_eq_zero hlv.out
          go_wp2
          have hq0 : Below w.heap.size w (w.alloc (.cells #[.int .i64 3, .int .i64 fr, .int .i64 to, .int .i64 term, .bool false, .int .i64 index, .int .i64 0, .slice RA 0 Rc, .int .i64 0, .string ⟨#[]⟩, .slice VA 0 Vc] 32)) := by go_grown
          have hall0 : Hid (([] : List Rec).all (fun r => decide (r.t ≤ term)) = (([] : List Rec).drop 0).all (fun r => decide (r.t ≤ term))) := rfl
          go_loopw [159] (fun i wr => ∃ k : Nat, k ≤ 0 ∧ i = .int .i64 k ∧ Below w.heap.size w wr ∧ Hid (([] : List Rec).all (fun r => decide (r.t ≤ term)) = (([] : List Rec).drop k).all (fun r => decide (r.t ≤ term))) ∧ Hid (Blk wr w.heap.size 32 #[.int .i64 3, .int .i64 fr, .int .i64 to, .int .i64 term, .bool false, .int .i64 index, .int .i64 0, .slice RA 0 Rc, .int .i64 0, .string ⟨#[]⟩, .slice VA 0 Vc])) (fun i _ => 0 - (intOf i).toNat)
          case atStart => exact ⟨0, Nat.zero_le _, rfl, hq0, hall0, hX0⟩
          case round =>
            clear hX0 hq0 hall0
            obtain ⟨k, hk, rfl, hb, hn, hX⟩ := hrel
            have xl := hX.out.lt
            have x3 := hX.out.cell 3
            change _ = some (Value.int .i64 term) at x3
            by_cases hlt : k < 0
            · exact absurd hlt (by omega)
            · have he := hid_mk (show ([] : List Rec).all (fun r => decide (r.t ≤ term)) = true by rw [hn.out, hr.end_ hlt]; rfl)
              have x7 := hX.out.cell 7
              have x5 := hX.out.cell 5
              have x6 := hX.out.cell 6
              change _ = some (Value.slice RA 0 Rc) at x7
              change _ = some (Value.int .i64 index) at x5
              change _ = some (Value.int .i64 0) at x6
              have hle : Hid (([] : List Rec).length ≤ 20) := (show ([] : List Rec).length ≤ 20 from by have := hlr.out; omega)
              go_wp2_with fail
              refine (refRight_any ⟨index, 0, []⟩ RA 0 Rc _ (B := B) (by omega) (hr.to (by go_grown))).mono ?_
              rintro e w2 ⟨rfl, hb1⟩
              have q2 := (after (w := w) hb1 (by go_grown)).1
              go_wp2
              refine ends_ret hQ (results_tmp rfl _ _ _) rfl ?_
              exact ⟨ret_bool (by rw [← hMM.out]; simp [mayM, formM, bodyM, c0.out, c1.out, c3.out, c4.out, c5.out, c6.out, cq2.out, he.out, show inB 3 1 5 = true from rfl] <;> intros <;> rfl), q2⟩
        · have vn : 0 < n := by omega
          clear un
          by_cases zs : s.size = 0
          case neg =>
            have e2 : 0 < s.size := by omega
            have e4 := hid_mk e2
            obtain ⟨s1, s2, s3, s4, s5⟩ := ne_toL e2
            clear zs e2
            go_wp2
            refine ends_ret hQ (results_tmp rfl _ _ _) rfl ?_
            exact ⟨ret_bool (by rw [← hMM.out]; simp [mayM, formM, bodyM, e4.out]), by go_grown⟩
          obtain rfl := ba_empty zs
          clear zs
          by_cases zm : m = 0
          case neg =>
            have e1 : 0 < m := by omega
            have e2 : 0 < vs.length := by have := hlv.out; omega
            have e3 := hid_mk e2
            clear e2 zm
            go_wp2
            refine ends_ret hQ (results_tmp rfl _ _ _) rfl ?_
            exact ⟨ret_bool (by rw [← hMM.out]; simp [mayM, formM, bodyM, e3.out]), by go_grown⟩
          subst zm
          obtain rfl : vs = [] := List.eq_nil_of_length_eq_zero hlv.out
          go_wp2
          have hq0 : Below w.heap.size w (w.alloc (.cells #[.int .i64 3, .int .i64 fr, .int .i64 to, .int .i64 term, .bool false, .int .i64 index, .int .i64 0, .slice RA n Rc, .int .i64 0, .string ⟨#[]⟩, .slice VA 0 Vc] 32)) := by go_grown
          have hall0 : Hid (rs.all (fun r => decide (r.t ≤ term)) = (rs.drop 0).all (fun r => decide (r.t ≤ term))) := rfl
          go_loopw [159] (fun i wr => ∃ k : Nat, k ≤ n ∧ i = .int .i64 k ∧ Below w.heap.size w wr ∧ Hid (rs.all (fun r => decide (r.t ≤ term)) = (rs.drop k).all (fun r => decide (r.t ≤ term))) ∧ Hid (Blk wr w.heap.size 32 #[.int .i64 3, .int .i64 fr, .int .i64 to, .int .i64 term, .bool false, .int .i64 index, .int .i64 0, .slice RA n Rc, .int .i64 0, .string ⟨#[]⟩, .slice VA 0 Vc])) (fun i _ => n - (intOf i).toNat)
          case atStart => exact ⟨0, Nat.zero_le _, rfl, hq0, hall0, hX0⟩
          case round =>
            clear hX0 hq0 hall0
            obtain ⟨k, hk, rfl, hb, hn, hX⟩ := hrel
            have xl := hX.out.lt
            have x3 := hX.out.cell 3
            change _ = some (Value.int .i64 term) at x3
            by_cases hlt : k < n
            · obtain ⟨b, o, r, rfl, hbb, hd, ct, ck, cd⟩ := (hr.below hb).at_ hlt
              have hb2 : Below w.heap.size w (wr.alloc (.cells #[.int .i64 r.t, .int .i64 r.k, .string r.d] 51)) := hb.alloc hb.size _
              have hX2 := hid_mk (hX.out.alloc (.cells #[.int .i64 r.t, .int .i64 r.k, .string r.d] 51))
              obtain ⟨rt, rk, rd⟩ := r
              dsimp only at *
              by_cases hg : term < rt
              · have hng : Hid (¬ rt ≤ term) := (show ¬ rt ≤ term from by omega)
                go_wp2
                refine ends_ret hQ (results_tmp rfl _ _ _) rfl ?_
                exact ⟨ret_bool (by rw [← hMM.out]; simp only [mayM, bodyM]; rw [hn.out, hd.out, List.all_cons, show decide (rt ≤ term) = false from by simpa using hng.out]; simp), hb2⟩
              have hle : Hid (rt ≤ term) := (show rt ≤ term from by omega)
              go_wp2
              go_roundw
              case rel => exact ⟨k + 1, by omega, by go_num, hb2, by rw [Hid, hn.out, hd.out, List.all_cons, show decide (rt ≤ term) = true from by simpa using hle.out, Bool.true_and], hX2⟩
              case measure => simp [intOf]; omega
            · have he := hid_mk (show rs.all (fun r => decide (r.t ≤ term)) = true by rw [hn.out, hr.end_ hlt]; rfl)
              have x7 := hX.out.cell 7
              have x5 := hX.out.cell 5
              have x6 := hX.out.cell 6
              change _ = some (Value.slice RA n Rc) at x7
              change _ = some (Value.int .i64 index) at x5
              change _ = some (Value.int .i64 0) at x6
              by_cases hn20 : 20 < n
              · have hng : Hid (¬ rs.length ≤ 20) := (show ¬ rs.length ≤ 20 from by have := hlr.out; omega)
                go_wp2
                refine ends_ret hQ (results_tmp rfl _ _ _) rfl ?_
                exact ⟨ret_bool (by rw [← hMM.out]; simp only [mayM, bodyM, show decide (rs.length ≤ 20) = false from by simpa using hng.out]; simp), hb⟩
              have hle : Hid (rs.length ≤ 20) := (show rs.length ≤ 20 from by have := hlr.out; omega)
              go_wp2_with fail
              refine (refRight_any ⟨index, 0, rs⟩ RA n Rc _ (B := B) (by omega) (hr.to (by go_grown))).mono ?_
              rintro e w2 ⟨rfl, hb1⟩
              have q2 := (after (w := w) hb1 (by go_grown)).1
              go_wp2
              refine ends_ret hQ (results_tmp rfl _ _ _) rfl ?_
              exact ⟨ret_bool (by rw [← hMM.out]; simp [mayM, formM, bodyM, c0.out, c1.out, c3.out, c4.out, c5.out, c6.out, cq2.out, he.out, hle.out, show inB 3 1 5 = true from rfl] <;> intros <;> rfl), q2⟩
      · have vcommit : (commit != (0 : Int)) = true := by simpa using ucommit
        have ycommit : (commit == (0 : Int)) = false := by simpa using ucommit
        have hcommit := hid_mk ucommit
        clear ucommit
        by_cases un : n = 0
        · subst un
          obtain rfl : rs = [] := List.eq_nil_of_length_eq_zero hlr.out
          by_cases zs : s.size = 0
          case neg =>
            have e2 : 0 < s.size := by omega
            have e4 := hid_mk e2
            obtain ⟨s1, s2, s3, s4, s5⟩ := ne_toL e2
            clear zs e2
            go_wp2
            refine ends_ret hQ (results_tmp rfl _ _ _) rfl ?_
            exact ⟨ret_bool (by rw [← hMM.out]; simp [mayM, formM, bodyM, e4.out]), by go_grown⟩
          obtain rfl := ba_empty zs
          clear zs
          by_cases zm : m = 0
          case neg =>
            have e1 : 0 < m := by omega
            have e2 : 0 < vs.length := by have := hlv.out; omega
            have e3 := hid_mk e2
            clear e2 zm
            go_wp2
            refine ends_ret hQ (results_tmp rfl _ _ _) rfl ?_
            exact ⟨ret_bool (by rw [← hMM.out]; simp [mayM, formM, bodyM, e3.out]), by go_grown⟩
          subst zm
          obtain rfl : vs = [] := List.eq_nil_of_length_eq_zero hlv.out
          go_wp2
          have hq0 : Below w.heap.size w (w.alloc (.cells #[.int .i64 3, .int .i64 fr, .int .i64 to, .int .i64 term, .bool false, .int .i64 index, .int .i64 0, .slice RA 0 Rc, .int .i64 commit, .string ⟨#[]⟩, .slice VA 0 Vc] 32)) := by go_grown
          have hall0 : Hid (([] : List Rec).all (fun r => decide (r.t ≤ term)) = (([] : List Rec).drop 0).all (fun r => decide (r.t ≤ term))) := rfl
          go_loopw [159] (fun i wr => ∃ k : Nat, k ≤ 0 ∧ i = .int .i64 k ∧ Below w.heap.size w wr ∧ Hid (([] : List Rec).all (fun r => decide (r.t ≤ term)) = (([] : List Rec).drop k).all (fun r => decide (r.t ≤ term))) ∧ Hid (Blk wr w.heap.size 32 #[.int .i64 3, .int .i64 fr, .int .i64 to, .int .i64 term, .bool false, .int .i64 index, .int .i64 0, .slice RA 0 Rc, .int .i64 commit, .string ⟨#[]⟩, .slice VA 0 Vc])) (fun i _ => 0 - (intOf i).toNat)
          case atStart => exact ⟨0, Nat.zero_le _, rfl, hq0, hall0, hX0⟩
          case round =>
            clear hX0 hq0 hall0
            obtain ⟨k, hk, rfl, hb, hn, hX⟩ := hrel
            have xl := hX.out.lt
            have x3 := hX.out.cell 3
            change _ = some (Value.int .i64 term) at x3
            by_cases hlt : k < 0
            · exact absurd hlt (by omega)
            · have he := hid_mk (show ([] : List Rec).all (fun r => decide (r.t ≤ term)) = true by rw [hn.out, hr.end_ hlt]; rfl)
              have x7 := hX.out.cell 7
              have x5 := hX.out.cell 5
              have x6 := hX.out.cell 6
              change _ = some (Value.slice RA 0 Rc) at x7
              change _ = some (Value.int .i64 index) at x5
              change _ = some (Value.int .i64 0) at x6
              have hle : Hid (([] : List Rec).length ≤ 20) := (show ([] : List Rec).length ≤ 20 from by have := hlr.out; omega)
              go_wp2_with fail
              refine (refRight_any ⟨index, 0, []⟩ RA 0 Rc _ (B := B) (by omega) (hr.to (by go_grown))).mono ?_
              rintro e w2 ⟨rfl, hb1⟩
              have q2 := (after (w := w) hb1 (by go_grown)).1
              go_wp2
              refine ends_ret hQ (results_tmp rfl _ _ _) rfl ?_
              exact ⟨ret_bool (by rw [← hMM.out]; simp [mayM, formM, bodyM, c0.out, c1.out, c3.out, c4.out, c5.out, c6.out, cq2.out, he.out, show inB 3 1 5 = true from rfl] <;> intros <;> rfl), q2⟩
        · have vn : 0 < n := by omega
          clear un
          by_cases zs : s.size = 0
          case neg =>
            have e2 : 0 < s.size := by omega
            have e4 := hid_mk e2
            obtain ⟨s1, s2, s3, s4, s5⟩ := ne_toL e2
            clear zs e2
            go_wp2
            refine ends_ret hQ (results_tmp rfl _ _ _) rfl ?_
            exact ⟨ret_bool (by rw [← hMM.out]; simp [mayM, formM, bodyM, e4.out]), by go_grown⟩
          obtain rfl := ba_empty zs
          clear zs
          by_cases zm : m = 0
          case neg =>
            have e1 : 0 < m := by omega
            have e2 : 0 < vs.length := by have := hlv.out; omega
            have e3 := hid_mk e2
            clear e2 zm
            go_wp2
            refine ends_ret hQ (results_tmp rfl _ _ _) rfl ?_
            exact ⟨ret_bool (by rw [← hMM.out]; simp [mayM, formM, bodyM, e3.out]), by go_grown⟩
          subst zm
          obtain rfl : vs = [] := List.eq_nil_of_length_eq_zero hlv.out
          go_wp2
          have hq0 : Below w.heap.size w (w.alloc (.cells #[.int .i64 3, .int .i64 fr, .int .i64 to, .int .i64 term, .bool false, .int .i64 index, .int .i64 0, .slice RA n Rc, .int .i64 commit, .string ⟨#[]⟩, .slice VA 0 Vc] 32)) := by go_grown
          have hall0 : Hid (rs.all (fun r => decide (r.t ≤ term)) = (rs.drop 0).all (fun r => decide (r.t ≤ term))) := rfl
          go_loopw [159] (fun i wr => ∃ k : Nat, k ≤ n ∧ i = .int .i64 k ∧ Below w.heap.size w wr ∧ Hid (rs.all (fun r => decide (r.t ≤ term)) = (rs.drop k).all (fun r => decide (r.t ≤ term))) ∧ Hid (Blk wr w.heap.size 32 #[.int .i64 3, .int .i64 fr, .int .i64 to, .int .i64 term, .bool false, .int .i64 index, .int .i64 0, .slice RA n Rc, .int .i64 commit, .string ⟨#[]⟩, .slice VA 0 Vc])) (fun i _ => n - (intOf i).toNat)
          case atStart => exact ⟨0, Nat.zero_le _, rfl, hq0, hall0, hX0⟩
          case round =>
            clear hX0 hq0 hall0
            obtain ⟨k, hk, rfl, hb, hn, hX⟩ := hrel
            have xl := hX.out.lt
            have x3 := hX.out.cell 3
            change _ = some (Value.int .i64 term) at x3
            by_cases hlt : k < n
            · obtain ⟨b, o, r, rfl, hbb, hd, ct, ck, cd⟩ := (hr.below hb).at_ hlt
              have hb2 : Below w.heap.size w (wr.alloc (.cells #[.int .i64 r.t, .int .i64 r.k, .string r.d] 51)) := hb.alloc hb.size _
              have hX2 := hid_mk (hX.out.alloc (.cells #[.int .i64 r.t, .int .i64 r.k, .string r.d] 51))
              obtain ⟨rt, rk, rd⟩ := r
              dsimp only at *
              by_cases hg : term < rt
              · have hng : Hid (¬ rt ≤ term) := (show ¬ rt ≤ term from by omega)
                go_wp2
                refine ends_ret hQ (results_tmp rfl _ _ _) rfl ?_
                exact ⟨ret_bool (by rw [← hMM.out]; simp only [mayM, bodyM]; rw [hn.out, hd.out, List.all_cons, show decide (rt ≤ term) = false from by simpa using hng.out]; simp), hb2⟩
              have hle : Hid (rt ≤ term) := (show rt ≤ term from by omega)
              go_wp2
              go_roundw
              case rel => exact ⟨k + 1, by omega, by go_num, hb2, by rw [Hid, hn.out, hd.out, List.all_cons, show decide (rt ≤ term) = true from by simpa using hle.out, Bool.true_and], hX2⟩
              case measure => simp [intOf]; omega
            · have he := hid_mk (show rs.all (fun r => decide (r.t ≤ term)) = true by rw [hn.out, hr.end_ hlt]; rfl)
              have x7 := hX.out.cell 7
              have x5 := hX.out.cell 5
              have x6 := hX.out.cell 6
              change _ = some (Value.slice RA n Rc) at x7
              change _ = some (Value.int .i64 index) at x5
              change _ = some (Value.int .i64 0) at x6
              by_cases hn20 : 20 < n
              · have hng : Hid (¬ rs.length ≤ 20) := (show ¬ rs.length ≤ 20 from by have := hlr.out; omega)
                go_wp2
                refine ends_ret hQ (results_tmp rfl _ _ _) rfl ?_
                exact ⟨ret_bool (by rw [← hMM.out]; simp only [mayM, bodyM, show decide (rs.length ≤ 20) = false from by simpa using hng.out]; simp), hb⟩
              have hle : Hid (rs.length ≤ 20) := (show rs.length ≤ 20 from by have := hlr.out; omega)
              go_wp2_with fail
              refine (refRight_any ⟨index, 0, rs⟩ RA n Rc _ (B := B) (by omega) (hr.to (by go_grown))).mono ?_
              rintro e w2 ⟨rfl, hb1⟩
              have q2 := (after (w := w) hb1 (by go_grown)).1
              go_wp2
              refine ends_ret hQ (results_tmp rfl _ _ _) rfl ?_
              exact ⟨ret_bool (by rw [← hMM.out]; simp [mayM, formM, bodyM, c0.out, c1.out, c3.out, c4.out, c5.out, c6.out, cq2.out, he.out, hle.out, show inB 3 1 5 = true from rfl] <;> intros <;> rfl), q2⟩
    · have vlterm : (lterm != (0 : Int)) = true := by simpa using ulterm
      have ylterm : (lterm == (0 : Int)) = false := by simpa using ulterm
      have hlterm := hid_mk ulterm
      clear ulterm
      by_cases ucommit : commit = 0
      · subst ucommit
        by_cases un : n = 0
        · subst un
          obtain rfl : rs = [] := List.eq_nil_of_length_eq_zero hlr.out
          by_cases zs : s.size = 0
          case neg =>
            have e2 : 0 < s.size := by omega
            have e4 := hid_mk e2
            obtain ⟨s1, s2, s3, s4, s5⟩ := ne_toL e2
            clear zs e2
            go_wp2
            refine ends_ret hQ (results_tmp rfl _ _ _) rfl ?_
            exact ⟨ret_bool (by rw [← hMM.out]; simp [mayM, formM, bodyM, e4.out]), by go_grown⟩
          obtain rfl := ba_empty zs
          clear zs
          by_cases zm : m = 0
          case neg =>
            have e1 : 0 < m := by omega
            have e2 : 0 < vs.length := by have := hlv.out; omega
            have e3 := hid_mk e2
            clear e2 zm
            go_wp2
            refine ends_ret hQ (results_tmp rfl _ _ _) rfl ?_
            exact ⟨ret_bool (by rw [← hMM.out]; simp [mayM, formM, bodyM, e3.out]), by go_grown⟩
          subst zm
          obtain rfl : vs = [] := List.eq_nil_of_length_eq_zero hlv.out
          go_wp2
          have hq0 : Below w.heap.size w (w.alloc (.cells #[.int .i64 3, .int .i64 fr, .int .i64 to, .int .i64 term, .bool false, .int .i64 index, .int .i64 lterm, .slice RA 0 Rc, .int .i64 0, .string ⟨#[]⟩, .slice VA 0 Vc] 32)) := by go_grown
          have hall0 : Hid (([] : List Rec).all (fun r => decide (r.t ≤ term)) = (([] : List Rec).drop 0).all (fun r => decide (r.t ≤ term))) := rfl
          go_loopw [159] (fun i wr => ∃ k : Nat, k ≤ 0 ∧ i = .int .i64 k ∧ Below w.heap.size w wr ∧ Hid (([] : List Rec).all (fun r => decide (r.t ≤ term)) = (([] : List Rec).drop k).all (fun r => decide (r.t ≤ term))) ∧ Hid (Blk wr w.heap.size 32 #[.int .i64 3, .int .i64 fr, .int .i64 to, .int .i64 term, .bool false, .int .i64 index, .int .i64 lterm, .slice RA 0 Rc, .int .i64 0, .string ⟨#[]⟩, .slice VA 0 Vc])) (fun i _ => 0 - (intOf i).toNat)
          case atStart => exact ⟨0, Nat.zero_le _, rfl, hq0, hall0, hX0⟩
          case round =>
            clear hX0 hq0 hall0
            obtain ⟨k, hk, rfl, hb, hn, hX⟩ := hrel
            have xl := hX.out.lt
            have x3 := hX.out.cell 3
            change _ = some (Value.int .i64 term) at x3
            by_cases hlt : k < 0
            · exact absurd hlt (by omega)
            · have he := hid_mk (show ([] : List Rec).all (fun r => decide (r.t ≤ term)) = true by rw [hn.out, hr.end_ hlt]; rfl)
              have x7 := hX.out.cell 7
              have x5 := hX.out.cell 5
              have x6 := hX.out.cell 6
              change _ = some (Value.slice RA 0 Rc) at x7
              change _ = some (Value.int .i64 index) at x5
              change _ = some (Value.int .i64 lterm) at x6
              have hle : Hid (([] : List Rec).length ≤ 20) := (show ([] : List Rec).length ≤ 20 from by have := hlr.out; omega)
              go_wp2_with fail
              refine (refRight_any ⟨index, lterm, []⟩ RA 0 Rc _ (B := B) (by omega) (hr.to (by go_grown))).mono ?_
              rintro e w2 ⟨rfl, hb1⟩
              have q2 := (after (w := w) hb1 (by go_grown)).1
              go_wp2
              refine ends_ret hQ (results_tmp rfl _ _ _) rfl ?_
              exact ⟨ret_bool (by rw [← hMM.out]; simp [mayM, formM, bodyM, c0.out, c1.out, c3.out, c4.out, c5.out, c6.out, cq2.out, he.out, show inB 3 1 5 = true from rfl] <;> intros <;> rfl), q2⟩
        · have vn : 0 < n := by omega
          clear un
          by_cases zs : s.size = 0
          case neg =>
            have e2 : 0 < s.size := by omega
            have e4 := hid_mk e2
            obtain ⟨s1, s2, s3, s4, s5⟩ := ne_toL e2
            clear zs e2
            go_wp2
            refine ends_ret hQ (results_tmp rfl _ _ _) rfl ?_
            exact ⟨ret_bool (by rw [← hMM.out]; simp [mayM, formM, bodyM, e4.out]), by go_grown⟩
          obtain rfl := ba_empty zs
          clear zs
          by_cases zm : m = 0
          case neg =>
            have e1 : 0 < m := by omega
            have e2 : 0 < vs.length := by have := hlv.out; omega
            have e3 := hid_mk e2
            clear e2 zm
            go_wp2
            refine ends_ret hQ (results_tmp rfl _ _ _) rfl ?_
            exact ⟨ret_bool (by rw [← hMM.out]; simp [mayM, formM, bodyM, e3.out]), by go_grown⟩
          subst zm
          obtain rfl : vs = [] := List.eq_nil_of_length_eq_zero hlv.out
          go_wp2
          have hq0 : Below w.heap.size w (w.alloc (.cells #[.int .i64 3, .int .i64 fr, .int .i64 to, .int .i64 term, .bool false, .int .i64 index, .int .i64 lterm, .slice RA n Rc, .int .i64 0, .string ⟨#[]⟩, .slice VA 0 Vc] 32)) := by go_grown
          have hall0 : Hid (rs.all (fun r => decide (r.t ≤ term)) = (rs.drop 0).all (fun r => decide (r.t ≤ term))) := rfl
          go_loopw [159] (fun i wr => ∃ k : Nat, k ≤ n ∧ i = .int .i64 k ∧ Below w.heap.size w wr ∧ Hid (rs.all (fun r => decide (r.t ≤ term)) = (rs.drop k).all (fun r => decide (r.t ≤ term))) ∧ Hid (Blk wr w.heap.size 32 #[.int .i64 3, .int .i64 fr, .int .i64 to, .int .i64 term, .bool false, .int .i64 index, .int .i64 lterm, .slice RA n Rc, .int .i64 0, .string ⟨#[]⟩, .slice VA 0 Vc])) (fun i _ => n - (intOf i).toNat)
          case atStart => exact ⟨0, Nat.zero_le _, rfl, hq0, hall0, hX0⟩
          case round =>
            clear hX0 hq0 hall0
            obtain ⟨k, hk, rfl, hb, hn, hX⟩ := hrel
            have xl := hX.out.lt
            have x3 := hX.out.cell 3
            change _ = some (Value.int .i64 term) at x3
            by_cases hlt : k < n
            · obtain ⟨b, o, r, rfl, hbb, hd, ct, ck, cd⟩ := (hr.below hb).at_ hlt
              have hb2 : Below w.heap.size w (wr.alloc (.cells #[.int .i64 r.t, .int .i64 r.k, .string r.d] 51)) := hb.alloc hb.size _
              have hX2 := hid_mk (hX.out.alloc (.cells #[.int .i64 r.t, .int .i64 r.k, .string r.d] 51))
              obtain ⟨rt, rk, rd⟩ := r
              dsimp only at *
              by_cases hg : term < rt
              · have hng : Hid (¬ rt ≤ term) := (show ¬ rt ≤ term from by omega)
                go_wp2
                refine ends_ret hQ (results_tmp rfl _ _ _) rfl ?_
                exact ⟨ret_bool (by rw [← hMM.out]; simp only [mayM, bodyM]; rw [hn.out, hd.out, List.all_cons, show decide (rt ≤ term) = false from by simpa using hng.out]; simp), hb2⟩
              have hle : Hid (rt ≤ term) := (show rt ≤ term from by omega)
              go_wp2
              go_roundw
              case rel => exact ⟨k + 1, by omega, by go_num, hb2, by rw [Hid, hn.out, hd.out, List.all_cons, show decide (rt ≤ term) = true from by simpa using hle.out, Bool.true_and], hX2⟩
              case measure => simp [intOf]; omega
            · have he := hid_mk (show rs.all (fun r => decide (r.t ≤ term)) = true by rw [hn.out, hr.end_ hlt]; rfl)
              have x7 := hX.out.cell 7
              have x5 := hX.out.cell 5
              have x6 := hX.out.cell 6
              change _ = some (Value.slice RA n Rc) at x7
              change _ = some (Value.int .i64 index) at x5
              change _ = some (Value.int .i64 lterm) at x6
              by_cases hn20 : 20 < n
              · have hng : Hid (¬ rs.length ≤ 20) := (show ¬ rs.length ≤ 20 from by have := hlr.out; omega)
                go_wp2
                refine ends_ret hQ (results_tmp rfl _ _ _) rfl ?_
                exact ⟨ret_bool (by rw [← hMM.out]; simp only [mayM, bodyM, show decide (rs.length ≤ 20) = false from by simpa using hng.out]; simp), hb⟩
              have hle : Hid (rs.length ≤ 20) := (show rs.length ≤ 20 from by have := hlr.out; omega)
              go_wp2_with fail
              refine (refRight_any ⟨index, lterm, rs⟩ RA n Rc _ (B := B) (by omega) (hr.to (by go_grown))).mono ?_
              rintro e w2 ⟨rfl, hb1⟩
              have q2 := (after (w := w) hb1 (by go_grown)).1
              go_wp2
              refine ends_ret hQ (results_tmp rfl _ _ _) rfl ?_
              exact ⟨ret_bool (by rw [← hMM.out]; simp [mayM, formM, bodyM, c0.out, c1.out, c3.out, c4.out, c5.out, c6.out, cq2.out, he.out, hle.out, show inB 3 1 5 = true from rfl] <;> intros <;> rfl), q2⟩
      · have vcommit : (commit != (0 : Int)) = true := by simpa using ucommit
        have ycommit : (commit == (0 : Int)) = false := by simpa using ucommit
        have hcommit := hid_mk ucommit
        clear ucommit
        by_cases un : n = 0
        · subst un
          obtain rfl : rs = [] := List.eq_nil_of_length_eq_zero hlr.out
          by_cases zs : s.size = 0
          case neg =>
            have e2 : 0 < s.size := by omega
            have e4 := hid_mk e2
            obtain ⟨s1, s2, s3, s4, s5⟩ := ne_toL e2
            clear zs e2
            go_wp2
            refine ends_ret hQ (results_tmp rfl _ _ _) rfl ?_
            exact ⟨ret_bool (by rw [← hMM.out]; simp [mayM, formM, bodyM, e4.out]), by go_grown⟩
          obtain rfl := ba_empty zs
          clear zs
          by_cases zm : m = 0
          case neg =>
            have e1 : 0 < m := by omega
            have e2 : 0 < vs.length := by have := hlv.out; omega
            have e3 := hid_mk e2
            clear e2 zm
            go_wp2
            refine ends_ret hQ (results_tmp rfl _ _ _) rfl ?_
            exact ⟨ret_bool (by rw [← hMM.out]; simp [mayM, formM, bodyM, e3.out]), by go_grown⟩
          subst zm
          obtain rfl : vs = [] := List.eq_nil_of_length_eq_zero hlv.out
          go_wp2
          have hq0 : Below w.heap.size w (w.alloc (.cells #[.int .i64 3, .int .i64 fr, .int .i64 to, .int .i64 term, .bool false, .int .i64 index, .int .i64 lterm, .slice RA 0 Rc, .int .i64 commit, .string ⟨#[]⟩, .slice VA 0 Vc] 32)) := by go_grown
          have hall0 : Hid (([] : List Rec).all (fun r => decide (r.t ≤ term)) = (([] : List Rec).drop 0).all (fun r => decide (r.t ≤ term))) := rfl
          go_loopw [159] (fun i wr => ∃ k : Nat, k ≤ 0 ∧ i = .int .i64 k ∧ Below w.heap.size w wr ∧ Hid (([] : List Rec).all (fun r => decide (r.t ≤ term)) = (([] : List Rec).drop k).all (fun r => decide (r.t ≤ term))) ∧ Hid (Blk wr w.heap.size 32 #[.int .i64 3, .int .i64 fr, .int .i64 to, .int .i64 term, .bool false, .int .i64 index, .int .i64 lterm, .slice RA 0 Rc, .int .i64 commit, .string ⟨#[]⟩, .slice VA 0 Vc])) (fun i _ => 0 - (intOf i).toNat)
          case atStart => exact ⟨0, Nat.zero_le _, rfl, hq0, hall0, hX0⟩
          case round =>
            clear hX0 hq0 hall0
            obtain ⟨k, hk, rfl, hb, hn, hX⟩ := hrel
            have xl := hX.out.lt
            have x3 := hX.out.cell 3
            change _ = some (Value.int .i64 term) at x3
            by_cases hlt : k < 0
            · exact absurd hlt (by omega)
            · have he := hid_mk (show ([] : List Rec).all (fun r => decide (r.t ≤ term)) = true by rw [hn.out, hr.end_ hlt]; rfl)
              have x7 := hX.out.cell 7
              have x5 := hX.out.cell 5
              have x6 := hX.out.cell 6
              change _ = some (Value.slice RA 0 Rc) at x7
              change _ = some (Value.int .i64 index) at x5
              change _ = some (Value.int .i64 lterm) at x6
              have hle : Hid (([] : List Rec).length ≤ 20) := (show ([] : List Rec).length ≤ 20 from by have := hlr.out; omega)
              go_wp2_with fail
              refine (refRight_any ⟨index, lterm, []⟩ RA 0 Rc _ (B := B) (by omega) (hr.to (by go_grown))).mono ?_
              rintro e w2 ⟨rfl, hb1⟩
              have q2 := (after (w := w) hb1 (by go_grown)).1
              go_wp2
              refine ends_ret hQ (results_tmp rfl _ _ _) rfl ?_
              exact ⟨ret_bool (by rw [← hMM.out]; simp [mayM, formM, bodyM, c0.out, c1.out, c3.out, c4.out, c5.out, c6.out, cq2.out, he.out, show inB 3 1 5 = true from rfl] <;> intros <;> rfl), q2⟩
        · have vn : 0 < n := by omega
          clear un
          by_cases zs : s.size = 0
          case neg =>
            have e2 : 0 < s.size := by omega
            have e4 := hid_mk e2
            obtain ⟨s1, s2, s3, s4, s5⟩ := ne_toL e2
            clear zs e2
            go_wp2
            refine ends_ret hQ (results_tmp rfl _ _ _) rfl ?_
            exact ⟨ret_bool (by rw [← hMM.out]; simp [mayM, formM, bodyM, e4.out]), by go_grown⟩
          obtain rfl := ba_empty zs
          clear zs
          by_cases zm : m = 0
          case neg =>
            have e1 : 0 < m := by omega
            have e2 : 0 < vs.length := by have := hlv.out; omega
            have e3 := hid_mk e2
            clear e2 zm
            go_wp2
            refine ends_ret hQ (results_tmp rfl _ _ _) rfl ?_
            exact ⟨ret_bool (by rw [← hMM.out]; simp [mayM, formM, bodyM, e3.out]), by go_grown⟩
          subst zm
          obtain rfl : vs = [] := List.eq_nil_of_length_eq_zero hlv.out
          go_wp2
          have hq0 : Below w.heap.size w (w.alloc (.cells #[.int .i64 3, .int .i64 fr, .int .i64 to, .int .i64 term, .bool false, .int .i64 index, .int .i64 lterm, .slice RA n Rc, .int .i64 commit, .string ⟨#[]⟩, .slice VA 0 Vc] 32)) := by go_grown
          have hall0 : Hid (rs.all (fun r => decide (r.t ≤ term)) = (rs.drop 0).all (fun r => decide (r.t ≤ term))) := rfl
          go_loopw [159] (fun i wr => ∃ k : Nat, k ≤ n ∧ i = .int .i64 k ∧ Below w.heap.size w wr ∧ Hid (rs.all (fun r => decide (r.t ≤ term)) = (rs.drop k).all (fun r => decide (r.t ≤ term))) ∧ Hid (Blk wr w.heap.size 32 #[.int .i64 3, .int .i64 fr, .int .i64 to, .int .i64 term, .bool false, .int .i64 index, .int .i64 lterm, .slice RA n Rc, .int .i64 commit, .string ⟨#[]⟩, .slice VA 0 Vc])) (fun i _ => n - (intOf i).toNat)
          case atStart => exact ⟨0, Nat.zero_le _, rfl, hq0, hall0, hX0⟩
          case round =>
            clear hX0 hq0 hall0
            obtain ⟨k, hk, rfl, hb, hn, hX⟩ := hrel
            have xl := hX.out.lt
            have x3 := hX.out.cell 3
            change _ = some (Value.int .i64 term) at x3
            by_cases hlt : k < n
            · obtain ⟨b, o, r, rfl, hbb, hd, ct, ck, cd⟩ := (hr.below hb).at_ hlt
              have hb2 : Below w.heap.size w (wr.alloc (.cells #[.int .i64 r.t, .int .i64 r.k, .string r.d] 51)) := hb.alloc hb.size _
              have hX2 := hid_mk (hX.out.alloc (.cells #[.int .i64 r.t, .int .i64 r.k, .string r.d] 51))
              obtain ⟨rt, rk, rd⟩ := r
              dsimp only at *
              by_cases hg : term < rt
              · have hng : Hid (¬ rt ≤ term) := (show ¬ rt ≤ term from by omega)
                go_wp2
                refine ends_ret hQ (results_tmp rfl _ _ _) rfl ?_
                exact ⟨ret_bool (by rw [← hMM.out]; simp only [mayM, bodyM]; rw [hn.out, hd.out, List.all_cons, show decide (rt ≤ term) = false from by simpa using hng.out]; simp), hb2⟩
              have hle : Hid (rt ≤ term) := (show rt ≤ term from by omega)
              go_wp2
              go_roundw
              case rel => exact ⟨k + 1, by omega, by go_num, hb2, by rw [Hid, hn.out, hd.out, List.all_cons, show decide (rt ≤ term) = true from by simpa using hle.out, Bool.true_and], hX2⟩
              case measure => simp [intOf]; omega
            · have he := hid_mk (show rs.all (fun r => decide (r.t ≤ term)) = true by rw [hn.out, hr.end_ hlt]; rfl)
              have x7 := hX.out.cell 7
              have x5 := hX.out.cell 5
              have x6 := hX.out.cell 6
              change _ = some (Value.slice RA n Rc) at x7
              change _ = some (Value.int .i64 index) at x5
              change _ = some (Value.int .i64 lterm) at x6
              by_cases hn20 : 20 < n
              · have hng : Hid (¬ rs.length ≤ 20) := (show ¬ rs.length ≤ 20 from by have := hlr.out; omega)
                go_wp2
                refine ends_ret hQ (results_tmp rfl _ _ _) rfl ?_
                exact ⟨ret_bool (by rw [← hMM.out]; simp only [mayM, bodyM, show decide (rs.length ≤ 20) = false from by simpa using hng.out]; simp), hb⟩
              have hle : Hid (rs.length ≤ 20) := (show rs.length ≤ 20 from by have := hlr.out; omega)
              go_wp2_with fail
              refine (refRight_any ⟨index, lterm, rs⟩ RA n Rc _ (B := B) (by omega) (hr.to (by go_grown))).mono ?_
              rintro e w2 ⟨rfl, hb1⟩
              have q2 := (after (w := w) hb1 (by go_grown)).1
              go_wp2
              refine ends_ret hQ (results_tmp rfl _ _ _) rfl ?_
              exact ⟨ret_bool (by rw [← hMM.out]; simp [mayM, formM, bodyM, c0.out, c1.out, c3.out, c4.out, c5.out, c6.out, cq2.out, he.out, hle.out, show inB 3 1 5 = true from rfl] <;> intros <;> rfl), q2⟩
end Go.Proofs.YtncdjmpdbinanaaGreatDoor
