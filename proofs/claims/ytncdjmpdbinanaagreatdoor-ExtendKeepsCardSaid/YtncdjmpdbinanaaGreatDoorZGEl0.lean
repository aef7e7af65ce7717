/-
  WHAT IS PROVED HERE: which state may be, as wal.Right tells it: its shape, and its bytes' number. Conditions: the slices are of at most 2^47 elements; the library's table stands.
  WHAT IS PROVED HERE: which node may be, as data; what elect.rising and the reference's rises hand back. Condition: the slices are of at most 2^47 elements.
-/
import Derived.Test.YtncdjmpdbinanaaGreatDoorZGWal
import Derived.Test.YtncdjmpdbinanaaGreatDoorZGVal
import Derived.Test.YtncdjmpdbinanaaGreatDoorZGMem
import Derived.Test.YtncdjmpdbinanaaGreatDoorZGJrn
namespace Go.Proofs.YtncdjmpdbinanaaGreatDoor
open Go.RowKit

def rightH (h : Hd) : Bool := shapedH h && decide ((encH h).length ≤ 131072)
theorem num_len {n : Int} (h0 : 0 ≤ n) (h1 : n ≤ 1073741824) : (numN n).enc.length ≤ 12 := by
  have := itoa_len h0 (k := 9) (by omega)
  simp [numN]
  omega
theorem txt_len {s : ByteArray} (h : s.size ≤ 131072) : (txtN s).enc.length ≤ 131090 := by
  have := itoa_len (n := s.size) (by omega) (k := 9) (by omega)
  have e : s.data.toList.length = s.size := rfl
  simp only [txtN, List.length_append, List.length_cons, e]
  omega
theorem rec_len {r : Rec} (h : RecFit r) : (recEnc r).length ≤ 131120 := by
  obtain ⟨h1, h2, h3, h4, h5⟩ := h
  have a := num_len h1 h2
  have b := num_len h3 h4
  have c := txt_len h5
  unfold recEnc encN
  simp only [List.flatMap_cons, List.flatMap_nil, List.length_append, List.length_cons, List.length_nil]
  omega
theorem recs_len : ∀ rs : List Rec, (∀ r ∈ rs, RecFit r) → (rs.flatMap recEnc).length ≤ rs.length * 131120
  | [], _ => by simp
  | r :: rs, h => by
    have a := rec_len (h r (List.mem_cons_self ..))
    have b := recs_len rs (fun x hx => h x (List.mem_cons_of_mem _ hx))
    rw [List.flatMap_cons, List.length_append, List.length_cons, Nat.succ_mul]
    omega
theorem vots_len : ∀ vs : List Int, (∀ x ∈ vs, 1 ≤ x ∧ x ≤ 9) → (encN (votN vs)).length ≤ vs.length * 12
  | [], _ => by simp [encN, votN]
  | x :: vs, h => by
    have hx := h x (List.mem_cons_self ..)
    have a := num_len (n := x) (by omega) (by omega)
    have b := vots_len vs (fun x hx => h x (List.mem_cons_of_mem _ hx))
    unfold encN votN at *
    rw [List.map_cons, List.flatMap_cons, List.length_append, List.length_cons, Nat.succ_mul]
    omega
theorem encH_len {h : Hd} (hs : shapedH h = true) : (encH h).length ≤ 70368744177664 := by
  obtain ⟨h1, h2, h3, h4, h5, h6, h7⟩ := shaped_bounds hs
  have a := num_len h1.1 h1.2
  have b := num_len h2.1 (by omega)
  have c := num_len h3.1 h3.2
  have d := num_len h4.1 h4.2
  have e := txt_len h7
  have f := recs_len h.l.rs (shaped_fit hs)
  have g := vots_len h.vs (asc_fit none _ (shaped_asc hs))
  have f' : h.l.rs.length * 131120 ≤ 200 * 131120 := Nat.mul_le_mul_right _ h5
  have g' : h.vs.length * 12 ≤ 7 * 12 := Nat.mul_le_mul_right _ h6
  unfold encH votEnc recsEnc
  simp only [List.length_append, List.length_cons, List.length_nil]
  omega
set_option maxRecDepth 100000 in
set_option maxHeartbeats 3200000 in
theorem WPut_any (h : Hd) (R V : Slc) (w : World) {B : Nat} (hm : R.n ≤ 140737488355328) (hv : V.n ≤ 140737488355328) (hr : Recs w B R.A R.n h.l.rs) (hi : Ints w B V.A V.n h.vs) (ht : Tab w) :
    Calls Tryz.prog 121 #[hdV h R V] w fun e w' => (∃ x, e = .returned (.tuple #[.string x, .int .i64 (if rightH h then 0 else 1)])) ∧ Below w.heap.size w w' := by
  have hX0 := hid_mk (Blk.new w 27 #[.int .i64 h.t, .int .i64 h.v, .int .i64 h.l.base, .int .i64 h.l.bt, .slice R.A R.n R.c, .string h.s, .slice V.A V.n V.c])
  cases hs : shapedH h with
  | false =>
    have hr' : rightH h = false := by unfold rightH; rw [hs]; rfl
    rw [hr']
    replace hs := hid_mk hs
    unfold hdV
    refine calls_of_wpQ Tryz.func121 rfl ?_
    intro Q hQ
    simp only [Tryz.ntmps121, List.size_toArray, List.length_cons, List.length_nil, Nat.reduceAdd, Nat.reduceSub, Array.replicate_succ, Array.replicate_zero, List.push_toArray, List.append_toArray, List.nil_append, List.cons_append]
    go_wp2_with (go_at_call 147; refine (shaped_any h R V _ (B := B) hm hv (hr.to (by go_grown)) (hi.to (by go_grown))).mono ?_; rw [hs.out]; rintro e w1 ⟨rfl, hb1⟩; have q1 := (after (w := w) hb1 (by go_grown)).1; clear hb1)
    refine ends_ret hQ (results_tmp2 rfl _ _ _) rfl ?_
    exact ⟨⟨_, rfl⟩, q1⟩
  | true =>
    obtain ⟨_, _, _, _, h5, h6, _⟩ := shaped_bounds hs
    have hln := hr.len
    have hlv := hi.len
    have hc : 1 + (5 + (1 + V.n) + (1 + 4 * R.n)) ≤ 4000 := by omega
    have hel := encH_len hs
    have hs' := hs
    obtain ⟨L, hL⟩ : ∃ L, (encH h).length = L := ⟨_, rfl⟩
    by_cases hLe : L ≤ 131072
    · have hr' : rightH h = true := by unfold rightH; rw [hs, hL]; simpa using hLe
      rw [hr']
      replace hs := hid_mk hs
      replace hs' := hid_mk hs'
      replace hL := hid_mk hL
      unfold hdV
      refine calls_of_wpQ Tryz.func121 rfl ?_
      intro Q hQ
      simp only [Tryz.ntmps121, List.size_toArray, List.length_cons, List.length_nil, Nat.reduceAdd, Nat.reduceSub, Array.replicate_succ, Array.replicate_zero, List.push_toArray, List.append_toArray, List.nil_append, List.cons_append]
      go_wp2_with (first | (go_at_call 147; refine (shaped_any h R V _ (B := B) hm hv (hr.to (by go_grown)) (hi.to (by go_grown))).mono ?_; rw [hs.out]; rintro e w1 ⟨rfl, hb1⟩; have q1 := (after (w := w) hb1 (by go_grown)).1; have hX1 := hid_mk (hX0.out.keep hb1); obtain ⟨xl, x0, x1, x2, x3, x4, x5, x6⟩ := blk7 hX1.out; clear hb1) | (go_at_call 149; refine (value_any h R V _ (B := B) (hr.to (by go_grown)) (hi.to (by go_grown)) hs'.out).mono ?_; rintro e w2 ⟨⟨b, rfl, hO⟩, hb2⟩; have q2 := (after (w := w) hb2 (by go_grown)).1; replace hO := hid_mk hO; clear hb2) | (go_at_call 148; refine (VPut_any 4 (lstV (some ⟨b, 0, none⟩) 7 7) _ (encH h) _ hO.out hc (by omega) (ht.to q2) hel).mono ?_; rw [hL.out, if_pos hLe]; rintro e w3 ⟨rfl, hb3⟩; have q3 := (after (w := w) hb3 (by go_grown)).1; clear hb3))
      refine ends_ret hQ (results_tmp2 rfl _ _ _) rfl ?_
      exact ⟨⟨_, rfl⟩, q3⟩
    · have hr' : rightH h = false := by unfold rightH; rw [hs, hL]; simpa using hLe
      rw [hr']
      replace hs := hid_mk hs
      replace hs' := hid_mk hs'
      replace hL := hid_mk hL
      unfold hdV
      refine calls_of_wpQ Tryz.func121 rfl ?_
      intro Q hQ
      simp only [Tryz.ntmps121, List.size_toArray, List.length_cons, List.length_nil, Nat.reduceAdd, Nat.reduceSub, Array.replicate_succ, Array.replicate_zero, List.push_toArray, List.append_toArray, List.nil_append, List.cons_append]
      go_wp2_with (first | (go_at_call 147; refine (shaped_any h R V _ (B := B) hm hv (hr.to (by go_grown)) (hi.to (by go_grown))).mono ?_; rw [hs.out]; rintro e w1 ⟨rfl, hb1⟩; have q1 := (after (w := w) hb1 (by go_grown)).1; have hX1 := hid_mk (hX0.out.keep hb1); obtain ⟨xl, x0, x1, x2, x3, x4, x5, x6⟩ := blk7 hX1.out; clear hb1) | (go_at_call 149; refine (value_any h R V _ (B := B) (hr.to (by go_grown)) (hi.to (by go_grown)) hs'.out).mono ?_; rintro e w2 ⟨⟨b, rfl, hO⟩, hb2⟩; have q2 := (after (w := w) hb2 (by go_grown)).1; replace hO := hid_mk hO; clear hb2) | (go_at_call 148; refine (VPut_any 4 (lstV (some ⟨b, 0, none⟩) 7 7) _ (encH h) _ hO.out hc (by omega) (ht.to q2) hel).mono ?_; rw [hL.out, if_neg hLe]; rintro e w3 ⟨rfl, hb3⟩; have q3 := (after (w := w) hb3 (by go_grown)).1; clear hb3))
      refine ends_ret hQ (results_tmp2 rfl _ _ _) rfl ?_
      exact ⟨⟨_, rfl⟩, q3⟩
set_option maxRecDepth 100000 in
theorem WRight_any (h : Hd) (R V : Slc) (w : World) {B : Nat} (hm : R.n ≤ 140737488355328) (hv : V.n ≤ 140737488355328) (hr : Recs w B R.A R.n h.l.rs) (hi : Ints w B V.A V.n h.vs) (ht : Tab w) :
    Calls Tryz.prog 57 #[hdV h R V] w fun e w' => e = .returned (.bool (rightH h)) ∧ Below w.heap.size w w' := by
  have ht' : Tab (w.alloc (.cells #[.int .i64 h.t, .int .i64 h.v, .int .i64 h.l.base, .int .i64 h.l.bt, .slice R.A R.n R.c, .string h.s, .slice V.A V.n V.c] 27)) := ht.to (by go_grown)
  obtain ⟨r, hr'⟩ : ∃ r, rightH h = r := ⟨_, rfl⟩
  rw [hr']
  replace hr' := hid_mk hr'
  unfold hdV
  cases r
  all_goals
    refine calls_of_wpQ Tryz.func57 rfl ?_
    intro Q hQ
    simp only [Tryz.ntmps57, List.size_toArray, List.length_cons, List.length_nil, Nat.reduceAdd, Nat.reduceSub, Array.replicate_succ, Array.replicate_zero, List.push_toArray, List.append_toArray, List.nil_append, List.cons_append]
    go_wp2_with (go_at_call 121; refine (WPut_any h R V _ (B := B) hm hv (hr.to (by go_grown)) (hi.to (by go_grown)) ht').mono ?_; rw [hr'.out]; rintro e w1 ⟨⟨x, rfl⟩, hb1⟩; have q1 := (after (w := w) hb1 (by go_grown)).1; clear hb1; dsimp only [Bool.false_eq_true, if_false, if_true])
    refine ends_ret hQ (results_tmp rfl _ _ _) rfl ?_
    exact ⟨rfl, q1⟩
end Go.Proofs.YtncdjmpdbinanaaGreatDoor
namespace Go.Proofs.YtncdjmpdbinanaaGreatDoor
open Go.RowKit

def okP (nid last : Int) (prev : Option Int) (p : Pr) : Bool :=
  inB p.id 1 9 && !(p.id == nid) && (match prev with | none => true | some u => decide (u < p.id)) && inB p.nx 1 (last + 1) && inB p.mt 0 (p.nx - 1)
def okPs (nid last : Int) : Option Int → List Pr → Bool
  | _, [] => true
  | prev, p :: ps => if okP nid last prev p then okPs nid last (some p.id) ps else false
def prevP (ps : List Pr) (k : Nat) : Option Int := if k = 0 then none else (ps[k - 1]?).map (·.id)
theorem prevP_zero (ps : List Pr) : prevP ps 0 = none := rfl
theorem prevP_succ {ps : List Pr} {m : Nat} {u : Pr} (h : ps.drop m = u :: ps.drop (m + 1)) : prevP ps (m + 1) = some u.id := by
  unfold prevP
  rw [if_neg (by omega), Nat.add_sub_cancel]
  have : (ps.drop m)[0]? = some u := by rw [h]; rfl
  rw [List.getElem?_drop, Nat.add_zero] at this
  rw [this]
  rfl
/-- may the node be? -/
def rightN (N : Nd) : Bool :=
  inB N.id 1 9 && (rightH N.h && (rightL N.h.vs && (inB N.role 0 2 && (!(decide (0 < N.role) && N.h.t == 0) && (inB N.lead 0 9 && (inB N.timer 0 1048576 && (inB N.commit N.h.l.base (lastJ N.h.l) && (ascL none N.got && okPs N.id (lastJ N.h.l) none N.ps))))))))
theorem okT_J {T : Int} (hT : T ≤ 1073741824) : ∀ (rs : List Rec) (term : Int), okT T term rs = true → okRecs term rs = true
  | [], _, _ => rfl
  | r :: rs, term, h => by
    rw [okT] at h
    split at h
    · rename_i hc
      rw [okRecs, if_pos]
      · exact okT_J hT rs r.t h
      · simp only [inB, Bool.and_eq_true, decide_eq_true_eq] at hc ⊢
        exact ⟨⟨⟨hc.1.1.1, by omega⟩, hc.1.2⟩, hc.2⟩
    · cases h
theorem shaped_J {h : Hd} (hs : shapedH h = true) : rightJ h.l = true := by
  have hb := shaped_bounds hs
  unfold shapedH logT at hs
  simp only [Bool.and_eq_true] at hs
  unfold rightJ
  simp only [Bool.and_eq_true]
  refine ⟨⟨⟨⟨⟨hs.2.1.1.1.1.1.1.1, ?_⟩, hs.2.1.1.1.1.1.2⟩, hs.2.1.1.1.1.2⟩, hs.2.1.1.1.2⟩, okT_J hb.1.2 _ _ hs.2.1.1.2⟩
  simp [inB]
  omega
theorem right_shaped {h : Hd} (hs : rightH h = true) : shapedH h = true := by
  unfold rightH at hs
  simp only [Bool.and_eq_true] at hs
  exact hs.1
theorem ewithin_any (n lo hi : Int) (w : World) : Calls Tryz.prog 100 #[.int .i64 n, .int .i64 lo, .int .i64 hi] w fun e w' => e = .returned (.bool (inB n lo hi)) ∧ w = w' := by
  by_cases h1 : lo ≤ n
  · go_enter Tryz.func100, Tryz.ntmps100
    go_wp2
    go_ret
    exact ⟨ret_bool (by simp [inB, h1]), rfl⟩
  · have h2 : decide (lo ≤ n) = false := by simpa using h1
    go_enter Tryz.func100, Tryz.ntmps100
    go_wp2
    go_ret
    exact ⟨ret_bool (by unfold inB; rw [h2]; rfl), rfl⟩
theorem ewithin_q {n lo hi : Int} {b : Bool} {w : World} (h : inB n lo hi = b) : Calls Tryz.prog 100 #[.int .i64 n, .int .i64 lo, .int .i64 hi] w fun e w' => e = .returned (.bool b) ∧ w' = w :=
  (ewithin_any n lo hi w).mono (fun _ _ h' => ⟨by rw [← h]; exact h'.1, h'.2.symm⟩)
set_option maxRecDepth 100000 in
set_option maxHeartbeats 1600000 in
theorem rising_any (VA : Option Addr) (m Vc : Nat) (xs : List Int) (w : World) {B : Nat} (hv : m ≤ 140737488355328) (hi : Ints w B VA m xs) :
    Calls Tryz.prog 102 #[.slice VA m Vc] w fun e w' => e = .returned (.bool (ascL none xs)) ∧ Below w.heap.size w w' := by
  have hlv := hid_mk hi.len
  have hz : Hid (ascL none xs = ascL (prevOf xs 0) (xs.drop 0)) := rfl
  have q0 : Below w.heap.size w w := Below.refl _ _
  go_enter Tryz.func102, Tryz.ntmps102
  go_wp2
  go_loopw [3, 4, 7] (fun _ _ i wr => ∃ k : Nat, k ≤ m ∧ i = .int .i64 k ∧ Below w.heap.size w wr ∧ Hid (ascL none xs = ascL (prevOf xs k) (xs.drop k))) (fun _ _ i _ => m - (intOf i).toNat)
  case atStart => exact ⟨0, Nat.zero_le _, rfl, q0, hz⟩
  case round =>
    obtain ⟨k, hk, rfl, hb, hn⟩ := hrel
  
    by_cases hlt : k < m
    · obtain ⟨b, o, v, rfl, hbb, hd, hc⟩ := (hi.to hb).at_ hlt
      have hp1 := hid_mk (prev_succ hd.out)
      have hend := hid_mk (fun he : ascL (prevOf xs k) (xs.drop k) = false => hn.out.trans he)
      rcases Nat.eq_zero_or_pos k with h0 | h0
      · subst h0
        rw [Nat.add_zero] at hc
        go_wp2_with fail
        refine (ewithin_any _ _ _ _).mono ?_
        rintro e w1 ⟨rfl, rfl⟩
        cases g1 : inB v 1 9
        · replace g1 := hid_mk g1
          go_wp2
          go_ret
          exact ⟨ret_bool (by rw [hend.out]; rw [hd.out, asc_out _ g1.out]), hb⟩
        replace g1 := hid_mk g1
        go_wp2
        go_roundw
        case rel => exact ⟨1, by omega, by go_num, hb, by rw [Hid, hn.out, hd.out, hp1.out, prev_zero, asc_zero g1.out]⟩
        case measure => simp [intOf]; omega
      · obtain ⟨kp, rfl⟩ : ∃ kp, k = kp + 1 := ⟨k - 1, by omega⟩
        obtain ⟨b', o', u, e, _, hd', hc'⟩ := (hi.to hb).at_ (show kp < m by omega)
        cases e
        have hp := hid_mk (prev_succ hd'.out)
        go_wp2_with fail
        refine (ewithin_any _ _ _ _).mono ?_
        rintro e w1 ⟨rfl, rfl⟩
        cases g1 : inB v 1 9
        · replace g1 := hid_mk g1
          go_wp2
          go_ret
          exact ⟨ret_bool (by rw [hend.out]; rw [hd.out, asc_out _ g1.out]), hb⟩
        replace g1 := hid_mk g1
        by_cases hu : v ≤ u
        · go_wp2
          go_ret
          exact ⟨ret_bool (by rw [hend.out]; rw [hp.out, hd.out, asc_low _ (by omega)]), hb⟩
        go_wp2
        go_roundw
        case rel => exact ⟨kp + 1 + 1, by omega, by go_num, hb, by rw [Hid, hn.out, hd.out, hp1.out, hp.out, asc_succ g1.out (by omega)]⟩
        case measure => simp [intOf]; omega
    · have he := hid_mk (hi.end_ hk hlt)
      have hf := hid_mk (show ascL none xs = true by rw [hn.out, he.out]; exact asc_nil _)
      go_wp2
      go_ret
      exact ⟨ret_bool hf.out.symm, hb⟩
theorem r17in_any (n lo hi : Int) (w : World) : Calls Tryz.prog 58 #[.int .i64 n, .int .i64 lo, .int .i64 hi] w fun e w' => e = .returned (.bool (inB n lo hi)) ∧ w = w' := by
  by_cases h1 : lo ≤ n
  · go_enter Tryz.func58, Tryz.ntmps58
    go_wp2
    go_ret
    exact ⟨ret_bool (by simp [inB, h1]), rfl⟩
  · have h2 : decide (lo ≤ n) = false := by simpa using h1
    go_enter Tryz.func58, Tryz.ntmps58
    go_wp2
    go_ret
    exact ⟨ret_bool (by unfold inB; rw [h2]; rfl), rfl⟩
theorem r17in_q {n lo hi : Int} {b : Bool} {w : World} (h : inB n lo hi = b) : Calls Tryz.prog 58 #[.int .i64 n, .int .i64 lo, .int .i64 hi] w fun e w' => e = .returned (.bool b) ∧ w' = w :=
  (r17in_any n lo hi w).mono (fun _ _ h' => ⟨by rw [← h]; exact h'.1, h'.2.symm⟩)
set_option maxRecDepth 100000 in
set_option maxHeartbeats 1600000 in
theorem rises_any (VA : Option Addr) (m Vc : Nat) (xs : List Int) (w : World) {B : Nat} (hv : m ≤ 140737488355328) (hi : Ints w B VA m xs) :
    Calls Tryz.prog 61 #[.slice VA m Vc] w fun e w' => e = .returned (.bool (ascL none xs)) ∧ Below w.heap.size w w' := by
  have hlv := hid_mk hi.len
  have hz : Hid (ascL none xs = ascL (prevOf xs 0) (xs.drop 0)) := rfl
  have q0 : Below w.heap.size w w := Below.refl _ _
  go_enter Tryz.func61, Tryz.ntmps61
  go_wp2
  go_loopw [3, 4, 7] (fun _ _ i wr => ∃ k : Nat, k ≤ m ∧ i = .int .i64 k ∧ Below w.heap.size w wr ∧ Hid (ascL none xs = ascL (prevOf xs k) (xs.drop k))) (fun _ _ i _ => m - (intOf i).toNat)
  case atStart => exact ⟨0, Nat.zero_le _, rfl, q0, hz⟩
  case round =>
    obtain ⟨k, hk, rfl, hb, hn⟩ := hrel
  
    by_cases hlt : k < m
    · obtain ⟨b, o, v, rfl, hbb, hd, hc⟩ := (hi.to hb).at_ hlt
      have hp1 := hid_mk (prev_succ hd.out)
      have hend := hid_mk (fun he : ascL (prevOf xs k) (xs.drop k) = false => hn.out.trans he)
      rcases Nat.eq_zero_or_pos k with h0 | h0
      · subst h0
        rw [Nat.add_zero] at hc
        go_wp2_with fail
        refine (r17in_any _ _ _ _).mono ?_
        rintro e w1 ⟨rfl, rfl⟩
        cases g1 : inB v 1 9
        · replace g1 := hid_mk g1
          go_wp2
          go_ret
          exact ⟨ret_bool (by rw [hend.out]; rw [hd.out, asc_out _ g1.out]), hb⟩
        replace g1 := hid_mk g1
        go_wp2
        go_roundw
        case rel => exact ⟨1, by omega, by go_num, hb, by rw [Hid, hn.out, hd.out, hp1.out, prev_zero, asc_zero g1.out]⟩
        case measure => simp [intOf]; omega
      · obtain ⟨kp, rfl⟩ : ∃ kp, k = kp + 1 := ⟨k - 1, by omega⟩
        obtain ⟨b', o', u, e, _, hd', hc'⟩ := (hi.to hb).at_ (show kp < m by omega)
        cases e
        have hp := hid_mk (prev_succ hd'.out)
        go_wp2_with fail
        refine (r17in_any _ _ _ _).mono ?_
        rintro e w1 ⟨rfl, rfl⟩
        cases g1 : inB v 1 9
        · replace g1 := hid_mk g1
          go_wp2
          go_ret
          exact ⟨ret_bool (by rw [hend.out]; rw [hd.out, asc_out _ g1.out]), hb⟩
        replace g1 := hid_mk g1
        by_cases hu : v ≤ u
        · go_wp2
          go_ret
          exact ⟨ret_bool (by rw [hend.out]; rw [hp.out, hd.out, asc_low _ (by omega)]), hb⟩
        go_wp2
        go_roundw
        case rel => exact ⟨kp + 1 + 1, by omega, by go_num, hb, by rw [Hid, hn.out, hd.out, hp1.out, hp.out, asc_succ g1.out (by omega)]⟩
        case measure => simp [intOf]; omega
    · have he := hid_mk (hi.end_ hk hlt)
      have hf := hid_mk (show ascL none xs = true by rw [hn.out, he.out]; exact asc_nil _)
      go_wp2
      go_ret
      exact ⟨ret_bool hf.out.symm, hb⟩
end Go.Proofs.YtncdjmpdbinanaaGreatDoor
