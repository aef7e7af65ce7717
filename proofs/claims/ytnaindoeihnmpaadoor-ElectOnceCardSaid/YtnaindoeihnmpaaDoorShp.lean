/-
  WHAT IS PROVED HERE: which state may be, but for its bytes: what wal.shaped and the reference's Log and Voters hand back. Conditions: the slices are of at most 2^47 elements.
-/
import Derived.Test.YtnaindoeihnmpaaDoorNode
import Derived.Test.YtnaindoeihnmpaaDoorQrm1
namespace Go.Proofs.YtnaindoeihnmpaaDoor
open Go.RowKit

theorem asc_out {v : Int} (p : Option Int) {vs : List Int} (h : inB v 1 9 = false) : ascL p (v :: vs) = false := by
  have h' : v < 1 ∨ 9 < v := by unfold inB at h; simp at h; omega
  cases p with
  | none => rw [ascL, if_pos h']
  | some u => rw [ascL, if_pos (by omega)]
theorem asc_zero {v : Int} {vs : List Int} (h : inB v 1 9 = true) : ascL none (v :: vs) = ascL (some v) vs := by
  have h' : ¬ (v < 1 ∨ 9 < v) := by unfold inB at h; simp at h; omega
  rw [ascL, if_neg h']
theorem asc_succ {v u : Int} {vs : List Int} (h : inB v 1 9 = true) (hu : ¬ v ≤ u) : ascL (some u) (v :: vs) = ascL (some v) vs := by
  have h' : ¬ (v < 1 ∨ 9 < v ∨ v ≤ u) := by unfold inB at h; simp at h; omega
  rw [ascL, if_neg h']
theorem asc_low {v u : Int} (vs : List Int) (hu : v ≤ u) : ascL (some u) (v :: vs) = false := by
  rw [ascL, if_pos (.inr (.inr hu))]
theorem asc_nil (p : Option Int) : ascL p [] = true := by cases p <;> rfl
/-- may these records follow a term, up to a term? -/
def okT (T term : Int) : List Rec → Bool
  | [] => true
  | r :: rs => if inB r.t term T && inB r.k 0 2 && decide (r.d.size ≤ 8192) then okT T r.t rs else false
def logT (l : Lg) (T : Int) : Bool :=
  inB l.base 0 1073741824 && inB l.bt 0 T && (l.base == 0) == (l.bt == 0) && decide (l.rs.length ≤ 200) && decide (l.base + l.rs.length ≤ 1073741824) && okT T (max l.bt 1) l.rs
def shapedH (h : Hd) : Bool :=
  inB h.t 0 1073741824 && inB h.v 0 9 && (logT h.l h.t && (ascL none h.vs && decide (h.vs.length ≤ 7)) && decide (h.s.size ≤ 131072))
def hdV (h : Hd) (R V : Slc) : Value := .agg #[.int .i64 h.t, .int .i64 h.v, .int .i64 h.l.base, .int .i64 h.l.bt, .slice R.A R.n R.c, .string h.s, .slice V.A V.n V.c]
theorem wwithin_any (n lo hi : Int) (w : World) : Calls Tryd.prog 64 #[.int .i64 n, .int .i64 lo, .int .i64 hi] w fun e w' => e = .returned (.bool (inB n lo hi)) ∧ w = w' := by
  by_cases h1 : lo ≤ n
  · go_enter Tryd.func64, Tryd.ntmps64
    go_wp2
    go_ret
    exact ⟨ret_bool (by simp [inB, h1]), rfl⟩
  · have h2 : decide (lo ≤ n) = false := by simpa using h1
    go_enter Tryd.func64, Tryd.ntmps64
    go_wp2
    go_ret
    exact ⟨ret_bool (by unfold inB; rw [h2]; rfl), rfl⟩
set_option maxRecDepth 100000 in
set_option maxHeartbeats 6400000 in
theorem shaped_any (h : Hd) (R V : Slc) (w : World) {B : Nat} (hm : R.n ≤ 140737488355328) (hv : V.n ≤ 140737488355328) (hr : Recs w B R.A R.n h.l.rs) (hi : Ints w B V.A V.n h.vs) :
    Calls Tryd.prog 51 #[hdV h R V] w fun e w' => e = .returned (.bool (shapedH h)) ∧ Below w.heap.size w w' := by
  obtain ⟨t, hv', ⟨base, bt, rs⟩, s, xs⟩ := h
  obtain ⟨RA, n, Rc⟩ := R
  obtain ⟨VA, m, Vc⟩ := V
  have hlen := hid_mk hr.len
  have hlv := hid_mk hi.len
  have hX0 : Hid (Blk ((w.alloc (.cells #[.int .i64 t, .int .i64 hv', .int .i64 base, .int .i64 bt, .slice RA n Rc, .string s, .slice VA m Vc] 27)).alloc (.cells #[.int .i64 base, .int .i64 bt, .slice RA n Rc] 24)) w.heap.size 27 #[.int .i64 t, .int .i64 hv', .int .i64 base, .int .i64 bt, .slice RA n Rc, .string s, .slice VA m Vc]) := (Blk.new w _ _).alloc _
  have hB0 : Below w.heap.size w ((w.alloc (.cells #[.int .i64 t, .int .i64 hv', .int .i64 base, .int .i64 bt, .slice RA n Rc, .string s, .slice VA m Vc] 27)).alloc (.cells #[.int .i64 base, .int .i64 bt, .slice RA n Rc] 24)) := by go_grown
  unfold hdV
  dsimp only at *
  go_enter Tryd.func51, Tryd.ntmps51
  go_wp2_with fail
  refine (wwithin_any _ _ _ _).mono ?_
  rintro e w' ⟨rfl, rfl⟩
  cases h1 : inB t 0 1073741824
  · replace h1 := hid_mk h1
    go_wp2
    go_ret
    exact ⟨ret_bool (by simp [shapedH, logT, h1.out]), hB0⟩
  have hb1 : 0 ≤ t ∧ t ≤ 1073741824 := by simpa [inB] using h1
  replace h1 := hid_mk h1
  go_wp2_with fail
  refine (wwithin_any _ _ _ _).mono ?_
  rintro e w' ⟨rfl, rfl⟩
  cases h2 : inB hv' 0 9
  · replace h2 := hid_mk h2
    go_wp2
    go_ret
    exact ⟨ret_bool (by simp [shapedH, logT, h2.out]), hB0⟩
  replace h2 := hid_mk h2
  go_wp2_with fail
  refine (wwithin_any _ _ _ _).mono ?_
  rintro e w' ⟨rfl, rfl⟩
  cases h3 : inB base 0 1073741824
  · replace h3 := hid_mk h3
    go_wp2
    go_ret
    exact ⟨ret_bool (by simp [shapedH, logT, h3.out]), hB0⟩
  have hb3 : 0 ≤ base ∧ base ≤ 1073741824 := by simpa [inB] using h3
  replace h3 := hid_mk h3
  go_wp2_with fail
  refine (wwithin_any _ _ _ _).mono ?_
  rintro e w' ⟨rfl, rfl⟩
  cases h4 : inB bt 0 t
  · replace h4 := hid_mk h4
    go_wp2
    go_ret
    exact ⟨ret_bool (by simp [shapedH, logT, h4.out]), hB0⟩
  have hb4 : 0 ≤ bt ∧ bt ≤ t := by simpa [inB] using h4
  replace h4 := hid_mk h4
  by_cases h5 : (base == 0) = (bt == 0)
  case neg =>
    have h5' : ((base == 0) == (bt == 0)) = false := by simpa using h5
    replace h5' := hid_mk h5'
    cases hx : (base == 0) <;> cases hy : (bt == 0) <;> simp only [hx, hy, not_true_eq_false] at h5
    all_goals
      clear h5
      go_wp2
      go_ret
      exact ⟨ret_bool (by unfold shapedH logT; rw [h5'.out]; simp), hB0⟩
  obtain ⟨z, hz⟩ : ∃ z, (bt == 0) = z := ⟨_, rfl⟩
  rw [hz] at h5
  have h5' : Hid (((base == 0) == (bt == 0)) = true) := by rw [h5, hz]; simp [Hid]
  by_cases h6 : 200 < n
  · go_wp2
    go_ret
    exact ⟨ret_bool (by unfold shapedH logT; rw [hlen.out, show decide (n ≤ 200) = false from by simp; omega]; simp), hB0⟩
  by_cases h7 : 1073741824 - (n : Int) < base
  · go_wp2
    go_ret
    exact ⟨ret_bool (by unfold shapedH logT; rw [hlen.out, show decide (base + n ≤ 1073741824) = false from by simp; omega]; simp), hB0⟩
  by_cases h8 : 7 < m
  · go_wp2
    go_ret
    exact ⟨ret_bool (by unfold shapedH; rw [hlv.out, show decide (m ≤ 7) = false from by simp; omega]; simp), hB0⟩
  by_cases h9 : 131072 < s.size
  · go_wp2
    go_ret
    exact ⟨ret_bool (by unfold shapedH; rw [show decide (s.size ≤ 131072) = false from by simp; omega]; simp), hB0⟩
  have hsh : Hid (shapedH ⟨t, hv', ⟨base, bt, rs⟩, s, xs⟩ = (okT t (max bt 1) rs && ascL none xs)) := by
    unfold Hid shapedH logT
    rw [hlen.out, hlv.out, show decide (n ≤ 200) = true from by simp; omega, show decide (base + n ≤ 1073741824) = true from by simp; omega, show decide (m ≤ 7) = true from by simp; omega, show decide (s.size ≤ 131072) = true from by simp; omega, h1.out, h2.out, h3.out, h4.out, h5'.out]
    simp
  clear h1 h2 h3 h4 h5'
  have hmx : 1 ≤ max bt 1 ∧ max bt 1 ≤ 1073741824 := by omega
  go_wp2
  clear h5 hz
  go_loopw [4, 77] (fun tm i wr => ∃ (k : Nat) (term : Int), k ≤ n ∧ i = .int .i64 k ∧ tm = .int .i64 term ∧ Below w.heap.size w wr ∧ Hid (shapedH ⟨t, hv', ⟨base, bt, rs⟩, s, xs⟩ = (okT t term (rs.drop k) && ascL none xs)) ∧ Hid (Blk wr w.heap.size 27 #[.int .i64 t, .int .i64 hv', .int .i64 base, .int .i64 bt, .slice RA n Rc, .string s, .slice VA m Vc])) (fun _ i _ => n - (intOf i).toNat)
  case atStart => exact ⟨0, _, Nat.zero_le _, rfl, rfl, hB0, hsh, hX0⟩
  case round =>
    clear hX0 hB0 hsh
    obtain ⟨k, term, hk, rfl, rfl, hb, hn, hX⟩ := hrel
    have x0 := hX.out.cell 0
    have xl := hX.out.lt
    change _ = some (Value.int .i64 t) at x0
    by_cases hlt : k < n
    · obtain ⟨b, o, r, rfl, hbb, hd, ct, ck, cd⟩ := (hr.below hb).at_ hlt
      have hb2 : Below w.heap.size w (wr.alloc (.cells #[.int .i64 r.t, .int .i64 r.k, .string r.d] 55)) := hb.alloc hb.size _
      have hX2 := hid_mk (hX.out.alloc (.cells #[.int .i64 r.t, .int .i64 r.k, .string r.d] 55))
      obtain ⟨rt, rk, rd⟩ := r
      dsimp only at *
      go_wp2_with fail
      refine (wwithin_any _ _ _ _).mono ?_
      rintro e w' ⟨rfl, rfl⟩
      cases g1 : inB rt term t
      · replace g1 := hid_mk g1
        go_wp2
        go_ret
        exact ⟨ret_bool (by rw [hn.out, hd.out]; simp [okT, g1.out]), hb2⟩
      have gb1 : term ≤ rt ∧ rt ≤ t := by simpa [inB] using g1
      replace g1 := hid_mk g1
      go_wp2_with fail
      refine (wwithin_any _ _ _ _).mono ?_
      rintro e w' ⟨rfl, rfl⟩
      cases g2 : inB rk 0 2
      · replace g2 := hid_mk g2
        go_wp2
        go_ret
        exact ⟨ret_bool (by rw [hn.out, hd.out]; simp [okT, g2.out]), hb2⟩
      replace g2 := hid_mk g2
      by_cases g3 : 8192 < rd.size
      · go_wp2
        go_ret
        exact ⟨ret_bool (by rw [hn.out, hd.out]; simp [okT]; omega), hb2⟩
      go_wp2
      go_roundw
      case rel => exact ⟨k + 1, rt, by omega, by go_num, rfl, hb2, by rw [Hid, hn.out, hd.out, okT, g1.out, g2.out, show decide (rd.size ≤ 8192) = true from by simp; omega]; rfl, hX2⟩
      case measure => simp [intOf]; omega
    · have he := hid_mk (hr.end_ hlt)
      have x6 := hX.out.cell 6
      change _ = some (Value.slice VA m Vc) at x6
      have hn0 : Hid (shapedH ⟨t, hv', ⟨base, bt, rs⟩, s, xs⟩ = ascL (prevOf xs 0) (xs.drop 0)) := by rw [Hid, hn.out, he.out]; simp [okT, prev_zero]
      clear hn he
      obtain ⟨wo, hwo⟩ : ∃ wo : World, wo = wr := ⟨_, rfl⟩
      subst hwo
      go_wp2
      have q0 := hid_mk hb
      go_loopw [7, 8, 106] (fun _ _ i wr => ∃ k : Nat, k ≤ m ∧ i = .int .i64 k ∧ Below w.heap.size w wr ∧ Hid (shapedH ⟨t, hv', ⟨base, bt, rs⟩, s, xs⟩ = ascL (prevOf xs k) (xs.drop k)) ∧ Hid (Blk wr w.heap.size 27 #[.int .i64 t, .int .i64 hv', .int .i64 base, .int .i64 bt, .slice RA n Rc, .string s, .slice VA m Vc])) (fun _ _ i _ => m - (intOf i).toNat)
      case atStart => exact ⟨0, Nat.zero_le _, rfl, hb, hn0, hX⟩
      case round =>
        obtain ⟨k, hk, rfl, hb, hn, hX⟩ := hrel
        have x6 := hX.out.cell 6
        have xl := hX.out.lt
        change _ = some (Value.slice VA m Vc) at x6
        by_cases hlt : k < m
        · obtain ⟨b, o, v, rfl, hbb, hd, hc⟩ := (hi.to hb).at_ hlt
          have hp1 := hid_mk (prev_succ hd.out)
          have hend := hid_mk (fun he : ascL (prevOf xs k) (xs.drop k) = false => hn.out.trans he)
          rcases Nat.eq_zero_or_pos k with h0 | h0
          · subst h0
            rw [Nat.add_zero] at hc
            go_wp2_with fail
            refine (wwithin_any _ _ _ _).mono ?_
            rintro e w1 ⟨rfl, rfl⟩
            cases g1 : inB v 1 9
            · replace g1 := hid_mk g1
              go_wp2
              go_ret
              exact ⟨ret_bool (by rw [hend.out]; rw [hd.out, asc_out _ g1.out]), hb⟩
            replace g1 := hid_mk g1
            go_wp2
            go_roundw
            case rel => exact ⟨1, by omega, by go_num, hb, by rw [Hid, hn.out, hd.out, hp1.out, prev_zero, asc_zero g1.out], hX⟩
            case measure => simp [intOf]; omega
          · obtain ⟨kp, rfl⟩ : ∃ kp, k = kp + 1 := ⟨k - 1, by omega⟩
            obtain ⟨b', o', u, e, _, hd', hc'⟩ := (hi.to hb).at_ (show kp < m by omega)
            cases e
            have hp := hid_mk (prev_succ hd'.out)
            go_wp2_with fail
            refine (wwithin_any _ _ _ _).mono ?_
            rintro e w1 ⟨rfl, rfl⟩
            cases g1 : inB v 1 9
            · replace g1 := hid_mk g1
              go_wp2
              go_ret
              exact ⟨ret_bool (by rw [hend.out]; rw [hd.out, asc_out _ g1.out]), hb⟩
            replace g1 := hid_mk g1
            by_cases hu : v ≤ u
            · go_wp2
              go_ret
              exact ⟨ret_bool (by rw [hend.out]; rw [hp.out, hd.out, asc_low _ (by omega)]), hb⟩
            go_wp2
            go_roundw
            case rel => exact ⟨kp + 1 + 1, by omega, by go_num, hb, by rw [Hid, hn.out, hd.out, hp1.out, hp.out, asc_succ g1.out (by omega)], hX⟩
            case measure => simp [intOf]; omega
        · have he := hid_mk (hi.end_ hk hlt)
          have hf := hid_mk (show shapedH ⟨t, hv', ⟨base, bt, rs⟩, s, xs⟩ = true by rw [hn.out, he.out]; exact asc_nil _)
          go_wp2
          go_ret
          exact ⟨ret_bool hf.out.symm, hb⟩
theorem rin_any (n lo hi : Int) (w : World) : Calls Tryd.prog 54 #[.int .i64 n, .int .i64 lo, .int .i64 hi] w fun e w' => e = .returned (.bool (inB n lo hi)) ∧ w = w' := by
  by_cases h1 : lo ≤ n
  · go_enter Tryd.func54, Tryd.ntmps54
    go_wp2
    go_ret
    exact ⟨ret_bool (by simp [inB, h1]), rfl⟩
  · have h2 : decide (lo ≤ n) = false := by simpa using h1
    go_enter Tryd.func54, Tryd.ntmps54
    go_wp2
    go_ret
    exact ⟨ret_bool (by unfold inB; rw [h2]; rfl), rfl⟩
set_option maxRecDepth 100000 in
set_option maxHeartbeats 1600000 in
theorem RVoters_any (VA : Option Addr) (m Vc : Nat) (xs : List Int) (w : World) {B : Nat} (hv : m ≤ 140737488355328) (hi : Ints w B VA m xs) :
    Calls Tryd.prog 56 #[.slice VA m Vc] w fun e w' => e = .returned (.bool (ascL none xs && decide (xs.length ≤ 7))) ∧ Below w.heap.size w w' := by
  have hlv := hid_mk hi.len
  obtain ⟨R, hR⟩ : ∃ R, (ascL none xs && decide (xs.length ≤ 7)) = R := ⟨_, rfl⟩
  rw [hR]
  have hz : Hid (ascL none xs = ascL (prevOf xs 0) (xs.drop 0)) := rfl
  have hRf : Hid (ascL none xs = false → R = false) := fun h => by rw [← hR, h]; rfl
  have hRt : Hid (ascL none xs = true → R = decide (m ≤ 7)) := fun h => by rw [← hR, h, hlv.out]; rfl
  replace hR := hid_mk hR
  have q0 : Below w.heap.size w w := Below.refl _ _
  go_enter Tryd.func56, Tryd.ntmps56
  go_wp2
  go_loopw [3, 4, 7] (fun _ _ i wr => ∃ k : Nat, k ≤ m ∧ i = .int .i64 k ∧ Below w.heap.size w wr ∧ Hid (ascL none xs = ascL (prevOf xs k) (xs.drop k))) (fun _ _ i _ => m - (intOf i).toNat)
  case atStart => exact ⟨0, Nat.zero_le _, rfl, q0, hz⟩
  case round =>
    obtain ⟨k, hk, rfl, hb, hn⟩ := hrel
  
    by_cases hlt : k < m
    · obtain ⟨b, o, v, rfl, hbb, hd, hc⟩ := (hi.to hb).at_ hlt
      have hp1 := hid_mk (prev_succ hd.out)
      have hend := hid_mk (fun he : ascL (prevOf xs k) (xs.drop k) = false => hn.out.trans he)
      rcases Nat.eq_zero_or_pos k with h0 | h0
      · subst h0
        rw [Nat.add_zero] at hc
        go_wp2_with fail
        refine (rin_any _ _ _ _).mono ?_
        rintro e w1 ⟨rfl, rfl⟩
        cases g1 : inB v 1 9
        · replace g1 := hid_mk g1
          go_wp2
          go_ret
          exact ⟨ret_bool (by rw [hRf.out]; rw [hend.out]; rw [hd.out, asc_out _ g1.out]), hb⟩
        replace g1 := hid_mk g1
        go_wp2
        go_roundw
        case rel => exact ⟨1, by omega, by go_num, hb, by rw [Hid, hn.out, hd.out, hp1.out, prev_zero, asc_zero g1.out]⟩
        case measure => simp [intOf]; omega
      · obtain ⟨kp, rfl⟩ : ∃ kp, k = kp + 1 := ⟨k - 1, by omega⟩
        obtain ⟨b', o', u, e, _, hd', hc'⟩ := (hi.to hb).at_ (show kp < m by omega)
        cases e
        have hp := hid_mk (prev_succ hd'.out)
        go_wp2_with fail
        refine (rin_any _ _ _ _).mono ?_
        rintro e w1 ⟨rfl, rfl⟩
        cases g1 : inB v 1 9
        · replace g1 := hid_mk g1
          go_wp2
          go_ret
          exact ⟨ret_bool (by rw [hRf.out]; rw [hend.out]; rw [hd.out, asc_out _ g1.out]), hb⟩
        replace g1 := hid_mk g1
        by_cases hu : v ≤ u
        · go_wp2
          go_ret
          exact ⟨ret_bool (by rw [hRf.out]; rw [hend.out]; rw [hp.out, hd.out, asc_low _ (by omega)]), hb⟩
        go_wp2
        go_roundw
        case rel => exact ⟨kp + 1 + 1, by omega, by go_num, hb, by rw [Hid, hn.out, hd.out, hp1.out, hp.out, asc_succ g1.out (by omega)]⟩
        case measure => simp [intOf]; omega
    · have he := hid_mk (hi.end_ hk hlt)
      have hf := hid_mk (show ascL none xs = true by rw [hn.out, he.out]; exact asc_nil _)
      by_cases h7 : m ≤ 7
      · go_wp2
        go_ret
        exact ⟨ret_bool (by rw [hRt.out hf.out]; simp; omega), hb⟩
      · go_wp2
        go_ret
        exact ⟨ret_bool (by rw [hRt.out hf.out]; simp; omega), hb⟩
set_option maxRecDepth 100000 in
set_option maxHeartbeats 3200000 in
theorem RLog_any (l : Lg) (T : Int) (RA : Option Addr) (n Rc : Nat) (w : World) {B : Nat} (hm : n ≤ 140737488355328) (hr : Recs w B RA n l.rs) :
    Calls Tryd.prog 55 #[.agg #[.int .i64 l.base, .int .i64 l.bt, .slice RA n Rc], .int .i64 T] w fun e w' => e = .returned (.bool (logT l T)) ∧ Below w.heap.size w w' := by
  obtain ⟨base, bt, rs⟩ := l
  have hlen := hid_mk hr.len
  have hB0 : Below w.heap.size w (w.alloc (.cells #[.int .i64 base, .int .i64 bt, .slice RA n Rc] 24)) := by go_grown
  dsimp only at *
  go_enter Tryd.func55, Tryd.ntmps55
  go_wp2_with fail
  refine (rin_any _ _ _ _).mono ?_
  rintro e w' ⟨rfl, rfl⟩
  cases h3 : inB base 0 1073741824
  · replace h3 := hid_mk h3
    go_wp2
    go_ret
    exact ⟨ret_bool (by simp [logT, h3.out]), hB0⟩
  have hb3 : 0 ≤ base ∧ base ≤ 1073741824 := by simpa [inB] using h3
  replace h3 := hid_mk h3
  go_wp2_with fail
  refine (rin_any _ _ _ _).mono ?_
  rintro e w' ⟨rfl, rfl⟩
  cases h4 : inB bt 0 T
  · replace h4 := hid_mk h4
    go_wp2
    go_ret
    exact ⟨ret_bool (by simp [logT, h4.out]), hB0⟩
  have hb4 : 0 ≤ bt ∧ bt ≤ T := by simpa [inB] using h4
  replace h4 := hid_mk h4
  by_cases h5 : (base == 0) = (bt == 0)
  case neg =>
    have h5' : ((base == 0) == (bt == 0)) = false := by simpa using h5
    replace h5' := hid_mk h5'
    cases hx : (base == 0) <;> cases hy : (bt == 0) <;> simp only [hx, hy, not_true_eq_false] at h5
    all_goals
      clear h5
      go_wp2
      go_ret
      exact ⟨ret_bool (by unfold logT; rw [h5'.out]; simp), hB0⟩
  obtain ⟨z, hz⟩ : ∃ z, (bt == 0) = z := ⟨_, rfl⟩
  rw [hz] at h5
  have h5' : Hid (((base == 0) == (bt == 0)) = true) := by rw [h5, hz]; simp [Hid]
  by_cases h6 : 200 < n
  · go_wp2
    go_ret
    exact ⟨ret_bool (by unfold logT; rw [hlen.out, show decide (n ≤ 200) = false from by simp; omega]; simp), hB0⟩
  by_cases h7 : 1073741824 - (n : Int) < base
  · go_wp2
    go_ret
    exact ⟨ret_bool (by unfold logT; rw [hlen.out, show decide (base + n ≤ 1073741824) = false from by simp; omega]; simp), hB0⟩
  have hsh : Hid (logT ⟨base, bt, rs⟩ T = okT T (max bt 1) rs) := by
    unfold Hid logT
    rw [hlen.out, show decide (n ≤ 200) = true from by simp; omega, show decide (base + n ≤ 1073741824) = true from by simp; omega, h3.out, h4.out, h5'.out]
    simp
  clear h3 h4 h5'
  go_wp2
  clear h5 hz
  go_loopw [5, 48] (fun tm i wr => ∃ (k : Nat) (term : Int), k ≤ n ∧ i = .int .i64 k ∧ tm = .int .i64 term ∧ Below w.heap.size w wr ∧ Hid (logT ⟨base, bt, rs⟩ T = okT T (max term 1) (rs.drop k))) (fun _ i _ => n - (intOf i).toNat)
  case atStart => exact ⟨0, _, Nat.zero_le _, rfl, rfl, hB0, hsh⟩
  case round =>
    clear hB0 hsh
    obtain ⟨k, term, hk, rfl, rfl, hb, hn⟩ := hrel
    by_cases hlt : k < n
    · obtain ⟨b, o, r, rfl, hbb, hd, ct, ck, cd⟩ := (hr.below hb).at_ hlt
      have hb2 : Below w.heap.size w (wr.alloc (.cells #[.int .i64 r.t, .int .i64 r.k, .string r.d] 55)) := hb.alloc hb.size _
      obtain ⟨rt, rk, rd⟩ := r
      dsimp only at *
      by_cases q1 : rt < 1
      · go_wp2
        go_ret
        exact ⟨ret_bool (by rw [hn.out, hd.out]; unfold okT inB; rw [if_neg (by simp; omega)]), hb2⟩
      by_cases q2 : rt < term
      · go_wp2
        go_ret
        exact ⟨ret_bool (by rw [hn.out, hd.out]; unfold okT inB; rw [if_neg (by simp; omega)]), hb2⟩
      by_cases q3 : T < rt
      · go_wp2
        go_ret
        exact ⟨ret_bool (by rw [hn.out, hd.out]; unfold okT inB; rw [if_neg (by simp; omega)]), hb2⟩
      have g1 : inB rt (max term 1) T = true := by simp [inB]; omega
      replace g1 := hid_mk g1
      go_wp2_with fail
      refine (rin_any _ _ _ _).mono ?_
      rintro e w' ⟨rfl, rfl⟩
      cases g2 : inB rk 0 2
      · replace g2 := hid_mk g2
        go_wp2
        go_ret
        exact ⟨ret_bool (by rw [hn.out, hd.out]; simp [okT, g2.out]), hb2⟩
      replace g2 := hid_mk g2
      by_cases g3 : 8192 < rd.size
      · go_wp2
        go_ret
        exact ⟨ret_bool (by rw [hn.out, hd.out]; simp [okT]; omega), hb2⟩
      go_wp2
      go_roundw
      case rel => exact ⟨k + 1, rt, by omega, by go_num, rfl, hb2, by rw [Hid, hn.out, hd.out, show max rt 1 = rt from by omega]; simp [okT, g1.out, g2.out]; omega⟩
      case measure => simp [intOf]; omega
    · have he := hid_mk (hr.end_ hlt)
      go_wp2
      go_ret
      exact ⟨ret_bool (by rw [hn.out, he.out]; rfl), hb⟩
end Go.Proofs.YtnaindoeihnmpaaDoor
