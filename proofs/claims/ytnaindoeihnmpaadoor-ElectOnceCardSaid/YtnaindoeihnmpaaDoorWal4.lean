/-
  WHAT IS PROVED HERE: which state may be, as wal.Right tells it: its shape, and its bytes' number. Conditions: the slices are of at most 2^47 elements; the library's table stands.
-/
import Derived.Test.YtnaindoeihnmpaaDoorWal2
import Derived.Test.YtnaindoeihnmpaaDoorVal3
namespace Go.Proofs.YtnaindoeihnmpaaDoor
open Go.RowKit

def rightH (h : Hd) : Bool := shapedH h && decide ((encH h).length ≤ 131072)
theorem num_len {n : Int} (h0 : 0 ≤ n) (h1 : n ≤ 1073741824) : (numN n).enc.length ≤ 12 := by
  have := itoa_len h0 (k := 9) (by omega)
  simp [numN]
  omega
theorem txt_len {s : ByteArray} (h : s.size ≤ 131072) : (txtN s).enc.length ≤ 131090 := by
  have := itoa_len (n := s.size) (by omega) (k := 9) (by omega)
  have e : s.data.toList.length = s.size := rfl
  simp only [txtN, List.length_append, List.length_cons, e]
  omega
theorem rec_len {r : Rec} (h : RecFit r) : (recEnc r).length ≤ 131120 := by
  obtain ⟨h1, h2, h3, h4, h5⟩ := h
  have a := num_len h1 h2
  have b := num_len h3 h4
  have c := txt_len h5
  unfold recEnc encN
  simp only [List.flatMap_cons, List.flatMap_nil, List.length_append, List.length_cons, List.length_nil]
  omega
theorem recs_len : ∀ rs : List Rec, (∀ r ∈ rs, RecFit r) → (rs.flatMap recEnc).length ≤ rs.length * 131120
  | [], _ => by simp
  | r :: rs, h => by
    have a := rec_len (h r (List.mem_cons_self ..))
    have b := recs_len rs (fun x hx => h x (List.mem_cons_of_mem _ hx))
    rw [List.flatMap_cons, List.length_append, List.length_cons, Nat.succ_mul]
    omega
theorem vots_len : ∀ vs : List Int, (∀ x ∈ vs, 1 ≤ x ∧ x ≤ 9) → (encN (votN vs)).length ≤ vs.length * 12
  | [], _ => by simp [encN, votN]
  | x :: vs, h => by
    have hx := h x (List.mem_cons_self ..)
    have a := num_len (n := x) (by omega) (by omega)
    have b := vots_len vs (fun x hx => h x (List.mem_cons_of_mem _ hx))
    unfold encN votN at *
    rw [List.map_cons, List.flatMap_cons, List.length_append, List.length_cons, Nat.succ_mul]
    omega
theorem encH_len {h : Hd} (hs : shapedH h = true) : (encH h).length ≤ 70368744177664 := by
  obtain ⟨h1, h2, h3, h4, h5, h6, h7⟩ := shaped_bounds hs
  have a := num_len h1.1 h1.2
  have b := num_len h2.1 (by omega)
  have c := num_len h3.1 h3.2
  have d := num_len h4.1 h4.2
  have e := txt_len h7
  have f := recs_len h.l.rs (shaped_fit hs)
  have g := vots_len h.vs (asc_fit none _ (shaped_asc hs))
  have f' : h.l.rs.length * 131120 ≤ 200 * 131120 := Nat.mul_le_mul_right _ h5
  have g' : h.vs.length * 12 ≤ 7 * 12 := Nat.mul_le_mul_right _ h6
  unfold encH votEnc recsEnc
  simp only [List.length_append, List.length_cons, List.length_nil]
  omega
set_option maxRecDepth 100000 in
set_option maxHeartbeats 3200000 in
theorem WPut_any (h : Hd) (R V : Slc) (w : World) {B : Nat} (hm : R.n ≤ 140737488355328) (hv : V.n ≤ 140737488355328) (hr : Recs w B R.A R.n h.l.rs) (hi : Ints w B V.A V.n h.vs) (ht : Tab w) :
    Calls Tryd.prog 37 #[hdV h R V] w fun e w' => (∃ x, e = .returned (.tuple #[.string x, .int .i64 (if rightH h then 0 else 1)])) ∧ Below w.heap.size w w' := by
  have hX0 := hid_mk (Blk.new w 27 #[.int .i64 h.t, .int .i64 h.v, .int .i64 h.l.base, .int .i64 h.l.bt, .slice R.A R.n R.c, .string h.s, .slice V.A V.n V.c])
  cases hs : shapedH h with
  | false =>
    have hr' : rightH h = false := by unfold rightH; rw [hs]; rfl
    rw [hr']
    replace hs := hid_mk hs
    unfold hdV
    refine calls_of_wpQ Tryd.func37 rfl ?_
    intro Q hQ
    simp only [Tryd.ntmps37, List.size_toArray, List.length_cons, List.length_nil, Nat.reduceAdd, Nat.reduceSub, Array.replicate_succ, Array.replicate_zero, List.push_toArray, List.append_toArray, List.nil_append, List.cons_append]
    go_wp2_with (go_at_call 51; refine (shaped_any h R V _ (B := B) hm hv (hr.to (by go_grown)) (hi.to (by go_grown))).mono ?_; rw [hs.out]; rintro e w1 ⟨rfl, hb1⟩; have q1 := (after (w := w) hb1 (by go_grown)).1; clear hb1)
    refine ends_ret hQ (results_tmp2 rfl _ _ _) rfl ?_
    exact ⟨⟨_, rfl⟩, q1⟩
  | true =>
    obtain ⟨_, _, _, _, h5, h6, _⟩ := shaped_bounds hs
    have hln := hr.len
    have hlv := hi.len
    have hc : 1 + (5 + (1 + V.n) + (1 + 4 * R.n)) ≤ 4000 := by omega
    have hel := encH_len hs
    have hs' := hs
    obtain ⟨L, hL⟩ : ∃ L, (encH h).length = L := ⟨_, rfl⟩
    by_cases hLe : L ≤ 131072
    · have hr' : rightH h = true := by unfold rightH; rw [hs, hL]; simpa using hLe
      rw [hr']
      replace hs := hid_mk hs
      replace hs' := hid_mk hs'
      replace hL := hid_mk hL
      unfold hdV
      refine calls_of_wpQ Tryd.func37 rfl ?_
      intro Q hQ
      simp only [Tryd.ntmps37, List.size_toArray, List.length_cons, List.length_nil, Nat.reduceAdd, Nat.reduceSub, Array.replicate_succ, Array.replicate_zero, List.push_toArray, List.append_toArray, List.nil_append, List.cons_append]
      go_wp2_with (first | (go_at_call 51; refine (shaped_any h R V _ (B := B) hm hv (hr.to (by go_grown)) (hi.to (by go_grown))).mono ?_; rw [hs.out]; rintro e w1 ⟨rfl, hb1⟩; have q1 := (after (w := w) hb1 (by go_grown)).1; have hX1 := hid_mk (hX0.out.keep hb1); obtain ⟨xl, x0, x1, x2, x3, x4, x5, x6⟩ := blk7 hX1.out; clear hb1) | (go_at_call 53; refine (value_any h R V _ (B := B) (hr.to (by go_grown)) (hi.to (by go_grown)) hs'.out).mono ?_; rintro e w2 ⟨⟨b, rfl, hO⟩, hb2⟩; have q2 := (after (w := w) hb2 (by go_grown)).1; replace hO := hid_mk hO; clear hb2) | (go_at_call 52; refine (VPut_any 4 (lstV (some ⟨b, 0, none⟩) 7 7) _ (encH h) _ hO.out hc (by omega) (ht.to q2) hel).mono ?_; rw [hL.out, if_pos hLe]; rintro e w3 ⟨rfl, hb3⟩; have q3 := (after (w := w) hb3 (by go_grown)).1; clear hb3))
      refine ends_ret hQ (results_tmp2 rfl _ _ _) rfl ?_
      exact ⟨⟨_, rfl⟩, q3⟩
    · have hr' : rightH h = false := by unfold rightH; rw [hs, hL]; simpa using hLe
      rw [hr']
      replace hs := hid_mk hs
      replace hs' := hid_mk hs'
      replace hL := hid_mk hL
      unfold hdV
      refine calls_of_wpQ Tryd.func37 rfl ?_
      intro Q hQ
      simp only [Tryd.ntmps37, List.size_toArray, List.length_cons, List.length_nil, Nat.reduceAdd, Nat.reduceSub, Array.replicate_succ, Array.replicate_zero, List.push_toArray, List.append_toArray, List.nil_append, List.cons_append]
      go_wp2_with (first | (go_at_call 51; refine (shaped_any h R V _ (B := B) hm hv (hr.to (by go_grown)) (hi.to (by go_grown))).mono ?_; rw [hs.out]; rintro e w1 ⟨rfl, hb1⟩; have q1 := (after (w := w) hb1 (by go_grown)).1; have hX1 := hid_mk (hX0.out.keep hb1); obtain ⟨xl, x0, x1, x2, x3, x4, x5, x6⟩ := blk7 hX1.out; clear hb1) | (go_at_call 53; refine (value_any h R V _ (B := B) (hr.to (by go_grown)) (hi.to (by go_grown)) hs'.out).mono ?_; rintro e w2 ⟨⟨b, rfl, hO⟩, hb2⟩; have q2 := (after (w := w) hb2 (by go_grown)).1; replace hO := hid_mk hO; clear hb2) | (go_at_call 52; refine (VPut_any 4 (lstV (some ⟨b, 0, none⟩) 7 7) _ (encH h) _ hO.out hc (by omega) (ht.to q2) hel).mono ?_; rw [hL.out, if_neg hLe]; rintro e w3 ⟨rfl, hb3⟩; have q3 := (after (w := w) hb3 (by go_grown)).1; clear hb3))
      refine ends_ret hQ (results_tmp2 rfl _ _ _) rfl ?_
      exact ⟨⟨_, rfl⟩, q3⟩
set_option maxRecDepth 100000 in
theorem WRight_any (h : Hd) (R V : Slc) (w : World) {B : Nat} (hm : R.n ≤ 140737488355328) (hv : V.n ≤ 140737488355328) (hr : Recs w B R.A R.n h.l.rs) (hi : Ints w B V.A V.n h.vs) (ht : Tab w) :
    Calls Tryd.prog 19 #[hdV h R V] w fun e w' => e = .returned (.bool (rightH h)) ∧ Below w.heap.size w w' := by
  have ht' : Tab (w.alloc (.cells #[.int .i64 h.t, .int .i64 h.v, .int .i64 h.l.base, .int .i64 h.l.bt, .slice R.A R.n R.c, .string h.s, .slice V.A V.n V.c] 27)) := ht.to (by go_grown)
  obtain ⟨r, hr'⟩ : ∃ r, rightH h = r := ⟨_, rfl⟩
  rw [hr']
  replace hr' := hid_mk hr'
  unfold hdV
  cases r
  all_goals
    refine calls_of_wpQ Tryd.func19 rfl ?_
    intro Q hQ
    simp only [Tryd.ntmps19, List.size_toArray, List.length_cons, List.length_nil, Nat.reduceAdd, Nat.reduceSub, Array.replicate_succ, Array.replicate_zero, List.push_toArray, List.append_toArray, List.nil_append, List.cons_append]
    go_wp2_with (go_at_call 37; refine (WPut_any h R V _ (B := B) hm hv (hr.to (by go_grown)) (hi.to (by go_grown)) ht').mono ?_; rw [hr'.out]; rintro e w1 ⟨⟨x, rfl⟩, hb1⟩; have q1 := (after (w := w) hb1 (by go_grown)).1; clear hb1; dsimp only [Bool.false_eq_true, if_false, if_true])
    refine ends_ret hQ (results_tmp rfl _ _ _) rfl ?_
    exact ⟨rfl, q1⟩
end Go.Proofs.YtnaindoeihnmpaaDoor
