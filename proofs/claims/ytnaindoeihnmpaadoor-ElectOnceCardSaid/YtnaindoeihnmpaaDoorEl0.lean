/-
  WHAT IS PROVED HERE: which node may be, as data; what elect.rising and the reference's rises hand back. Condition: the slices are of at most 2^47 elements.
-/
import Derived.Test.YtnaindoeihnmpaaDoorShp
import Derived.Test.YtnaindoeihnmpaaDoorWal4
import Derived.Test.YtnaindoeihnmpaaDoorJrn1
namespace Go.Proofs.YtnaindoeihnmpaaDoor
open Go.RowKit

def okP (nid last : Int) (prev : Option Int) (p : Pr) : Bool :=
  inB p.id 1 9 && !(p.id == nid) && (match prev with | none => true | some u => decide (u < p.id)) && inB p.nx 1 (last + 1) && inB p.mt 0 (p.nx - 1)
def okPs (nid last : Int) : Option Int → List Pr → Bool
  | _, [] => true
  | prev, p :: ps => if okP nid last prev p then okPs nid last (some p.id) ps else false
def prevP (ps : List Pr) (k : Nat) : Option Int := if k = 0 then none else (ps[k - 1]?).map (·.id)
theorem prevP_zero (ps : List Pr) : prevP ps 0 = none := rfl
theorem prevP_succ {ps : List Pr} {m : Nat} {u : Pr} (h : ps.drop m = u :: ps.drop (m + 1)) : prevP ps (m + 1) = some u.id := by
  unfold prevP
  rw [if_neg (by omega), Nat.add_sub_cancel]
  have : (ps.drop m)[0]? = some u := by rw [h]; rfl
  rw [List.getElem?_drop, Nat.add_zero] at this
  rw [this]
  rfl
/-- may the node be? -/
def rightN (N : Nd) : Bool :=
  inB N.id 1 9 && (rightH N.h && (rightL N.h.vs && (inB N.role 0 2 && (!(decide (0 < N.role) && N.h.t == 0) && (inB N.lead 0 9 && (inB N.timer 0 1048576 && (inB N.commit N.h.l.base (lastJ N.h.l) && (ascL none N.got && okPs N.id (lastJ N.h.l) none N.ps))))))))
theorem okT_J {T : Int} (hT : T ≤ 1073741824) : ∀ (rs : List Rec) (term : Int), okT T term rs = true → okRecs term rs = true
  | [], _, _ => rfl
  | r :: rs, term, h => by
    rw [okT] at h
    split at h
    · rename_i hc
      rw [okRecs, if_pos]
      · exact okT_J hT rs r.t h
      · simp only [inB, Bool.and_eq_true, decide_eq_true_eq] at hc ⊢
        exact ⟨⟨⟨hc.1.1.1, by omega⟩, hc.1.2⟩, hc.2⟩
    · cases h
theorem shaped_J {h : Hd} (hs : shapedH h = true) : rightJ h.l = true := by
  have hb := shaped_bounds hs
  unfold shapedH logT at hs
  simp only [Bool.and_eq_true] at hs
  unfold rightJ
  simp only [Bool.and_eq_true]
  refine ⟨⟨⟨⟨⟨hs.2.1.1.1.1.1.1.1, ?_⟩, hs.2.1.1.1.1.1.2⟩, hs.2.1.1.1.1.2⟩, hs.2.1.1.1.2⟩, okT_J hb.1.2 _ _ hs.2.1.1.2⟩
  simp [inB]
  omega
theorem right_shaped {h : Hd} (hs : rightH h = true) : shapedH h = true := by
  unfold rightH at hs
  simp only [Bool.and_eq_true] at hs
  exact hs.1
theorem ewithin_any (n lo hi : Int) (w : World) : Calls Tryd.prog 18 #[.int .i64 n, .int .i64 lo, .int .i64 hi] w fun e w' => e = .returned (.bool (inB n lo hi)) ∧ w = w' := by
  by_cases h1 : lo ≤ n
  · go_enter Tryd.func18, Tryd.ntmps18
    go_wp2
    go_ret
    exact ⟨ret_bool (by simp [inB, h1]), rfl⟩
  · have h2 : decide (lo ≤ n) = false := by simpa using h1
    go_enter Tryd.func18, Tryd.ntmps18
    go_wp2
    go_ret
    exact ⟨ret_bool (by unfold inB; rw [h2]; rfl), rfl⟩
theorem ewithin_q {n lo hi : Int} {b : Bool} {w : World} (h : inB n lo hi = b) : Calls Tryd.prog 18 #[.int .i64 n, .int .i64 lo, .int .i64 hi] w fun e w' => e = .returned (.bool b) ∧ w' = w :=
  (ewithin_any n lo hi w).mono (fun _ _ h' => ⟨by rw [← h]; exact h'.1, h'.2.symm⟩)
set_option maxRecDepth 100000 in
set_option maxHeartbeats 1600000 in
theorem rising_any (VA : Option Addr) (m Vc : Nat) (xs : List Int) (w : World) {B : Nat} (hv : m ≤ 140737488355328) (hi : Ints w B VA m xs) :
    Calls Tryd.prog 21 #[.slice VA m Vc] w fun e w' => e = .returned (.bool (ascL none xs)) ∧ Below w.heap.size w w' := by
  have hlv := hid_mk hi.len
  have hz : Hid (ascL none xs = ascL (prevOf xs 0) (xs.drop 0)) := rfl
  have q0 : Below w.heap.size w w := Below.refl _ _
  go_enter Tryd.func21, Tryd.ntmps21
  go_wp2
  go_loopw [3, 4, 7] (fun _ _ i wr => ∃ k : Nat, k ≤ m ∧ i = .int .i64 k ∧ Below w.heap.size w wr ∧ Hid (ascL none xs = ascL (prevOf xs k) (xs.drop k))) (fun _ _ i _ => m - (intOf i).toNat)
  case atStart => exact ⟨0, Nat.zero_le _, rfl, q0, hz⟩
  case round =>
    obtain ⟨k, hk, rfl, hb, hn⟩ := hrel
  
    by_cases hlt : k < m
    · obtain ⟨b, o, v, rfl, hbb, hd, hc⟩ := (hi.to hb).at_ hlt
      have hp1 := hid_mk (prev_succ hd.out)
      have hend := hid_mk (fun he : ascL (prevOf xs k) (xs.drop k) = false => hn.out.trans he)
      rcases Nat.eq_zero_or_pos k with h0 | h0
      · subst h0
        rw [Nat.add_zero] at hc
        go_wp2_with fail
        refine (ewithin_any _ _ _ _).mono ?_
        rintro e w1 ⟨rfl, rfl⟩
        cases g1 : inB v 1 9
        · replace g1 := hid_mk g1
          go_wp2
          go_ret
          exact ⟨ret_bool (by rw [hend.out]; rw [hd.out, asc_out _ g1.out]), hb⟩
        replace g1 := hid_mk g1
        go_wp2
        go_roundw
        case rel => exact ⟨1, by omega, by go_num, hb, by rw [Hid, hn.out, hd.out, hp1.out, prev_zero, asc_zero g1.out]⟩
        case measure => simp [intOf]; omega
      · obtain ⟨kp, rfl⟩ : ∃ kp, k = kp + 1 := ⟨k - 1, by omega⟩
        obtain ⟨b', o', u, e, _, hd', hc'⟩ := (hi.to hb).at_ (show kp < m by omega)
        cases e
        have hp := hid_mk (prev_succ hd'.out)
        go_wp2_with fail
        refine (ewithin_any _ _ _ _).mono ?_
        rintro e w1 ⟨rfl, rfl⟩
        cases g1 : inB v 1 9
        · replace g1 := hid_mk g1
          go_wp2
          go_ret
          exact ⟨ret_bool (by rw [hend.out]; rw [hd.out, asc_out _ g1.out]), hb⟩
        replace g1 := hid_mk g1
        by_cases hu : v ≤ u
        · go_wp2
          go_ret
          exact ⟨ret_bool (by rw [hend.out]; rw [hp.out, hd.out, asc_low _ (by omega)]), hb⟩
        go_wp2
        go_roundw
        case rel => exact ⟨kp + 1 + 1, by omega, by go_num, hb, by rw [Hid, hn.out, hd.out, hp1.out, hp.out, asc_succ g1.out (by omega)]⟩
        case measure => simp [intOf]; omega
    · have he := hid_mk (hi.end_ hk hlt)
      have hf := hid_mk (show ascL none xs = true by rw [hn.out, he.out]; exact asc_nil _)
      go_wp2
      go_ret
      exact ⟨ret_bool hf.out.symm, hb⟩
theorem r17in_any (n lo hi : Int) (w : World) : Calls Tryd.prog 22 #[.int .i64 n, .int .i64 lo, .int .i64 hi] w fun e w' => e = .returned (.bool (inB n lo hi)) ∧ w = w' := by
  by_cases h1 : lo ≤ n
  · go_enter Tryd.func22, Tryd.ntmps22
    go_wp2
    go_ret
    exact ⟨ret_bool (by simp [inB, h1]), rfl⟩
  · have h2 : decide (lo ≤ n) = false := by simpa using h1
    go_enter Tryd.func22, Tryd.ntmps22
    go_wp2
    go_ret
    exact ⟨ret_bool (by unfold inB; rw [h2]; rfl), rfl⟩
theorem r17in_q {n lo hi : Int} {b : Bool} {w : World} (h : inB n lo hi = b) : Calls Tryd.prog 22 #[.int .i64 n, .int .i64 lo, .int .i64 hi] w fun e w' => e = .returned (.bool b) ∧ w' = w :=
  (r17in_any n lo hi w).mono (fun _ _ h' => ⟨by rw [← h]; exact h'.1, h'.2.symm⟩)
set_option maxRecDepth 100000 in
set_option maxHeartbeats 1600000 in
theorem rises_any (VA : Option Addr) (m Vc : Nat) (xs : List Int) (w : World) {B : Nat} (hv : m ≤ 140737488355328) (hi : Ints w B VA m xs) :
    Calls Tryd.prog 25 #[.slice VA m Vc] w fun e w' => e = .returned (.bool (ascL none xs)) ∧ Below w.heap.size w w' := by
  have hlv := hid_mk hi.len
  have hz : Hid (ascL none xs = ascL (prevOf xs 0) (xs.drop 0)) := rfl
  have q0 : Below w.heap.size w w := Below.refl _ _
  go_enter Tryd.func25, Tryd.ntmps25
  go_wp2
  go_loopw [3, 4, 7] (fun _ _ i wr => ∃ k : Nat, k ≤ m ∧ i = .int .i64 k ∧ Below w.heap.size w wr ∧ Hid (ascL none xs = ascL (prevOf xs k) (xs.drop k))) (fun _ _ i _ => m - (intOf i).toNat)
  case atStart => exact ⟨0, Nat.zero_le _, rfl, q0, hz⟩
  case round =>
    obtain ⟨k, hk, rfl, hb, hn⟩ := hrel
  
    by_cases hlt : k < m
    · obtain ⟨b, o, v, rfl, hbb, hd, hc⟩ := (hi.to hb).at_ hlt
      have hp1 := hid_mk (prev_succ hd.out)
      have hend := hid_mk (fun he : ascL (prevOf xs k) (xs.drop k) = false => hn.out.trans he)
      rcases Nat.eq_zero_or_pos k with h0 | h0
      · subst h0
        rw [Nat.add_zero] at hc
        go_wp2_with fail
        refine (r17in_any _ _ _ _).mono ?_
        rintro e w1 ⟨rfl, rfl⟩
        cases g1 : inB v 1 9
        · replace g1 := hid_mk g1
          go_wp2
          go_ret
          exact ⟨ret_bool (by rw [hend.out]; rw [hd.out, asc_out _ g1.out]), hb⟩
        replace g1 := hid_mk g1
        go_wp2
        go_roundw
        case rel => exact ⟨1, by omega, by go_num, hb, by rw [Hid, hn.out, hd.out, hp1.out, prev_zero, asc_zero g1.out]⟩
        case measure => simp [intOf]; omega
      · obtain ⟨kp, rfl⟩ : ∃ kp, k = kp + 1 := ⟨k - 1, by omega⟩
        obtain ⟨b', o', u, e, _, hd', hc'⟩ := (hi.to hb).at_ (show kp < m by omega)
        cases e
        have hp := hid_mk (prev_succ hd'.out)
        go_wp2_with fail
        refine (r17in_any _ _ _ _).mono ?_
        rintro e w1 ⟨rfl, rfl⟩
        cases g1 : inB v 1 9
        · replace g1 := hid_mk g1
          go_wp2
          go_ret
          exact ⟨ret_bool (by rw [hend.out]; rw [hd.out, asc_out _ g1.out]), hb⟩
        replace g1 := hid_mk g1
        by_cases hu : v ≤ u
        · go_wp2
          go_ret
          exact ⟨ret_bool (by rw [hend.out]; rw [hp.out, hd.out, asc_low _ (by omega)]), hb⟩
        go_wp2
        go_roundw
        case rel => exact ⟨kp + 1 + 1, by omega, by go_num, hb, by rw [Hid, hn.out, hd.out, hp1.out, hp.out, asc_succ g1.out (by omega)]⟩
        case measure => simp [intOf]; omega
    · have he := hid_mk (hi.end_ hk hlt)
      have hf := hid_mk (show ascL none xs = true by rw [hn.out, he.out]; exact asc_nil _)
      go_wp2
      go_ret
      exact ⟨ret_bool hf.out.symm, hb⟩
end Go.Proofs.YtnaindoeihnmpaaDoor
